/- The pure law about these functions. It holds without condition. -/
import Derived.Test.YtkokikbdndegkaaExactParseF
set_option linter.unusedVariables false
set_option linter.unusedSectionVars false
set_option linter.unusedSimpArgs false
set_option linter.unnecessarySimpa false
set_option maxRecDepth 100000
set_option autoImplicit false
namespace Go.Tv.F
open Go Go.Tv
def numOk (x : Int) : Bool := decide (-1000000000000 ≤ x) && decide (x ≤ 1000000000000)
theorem within (x a b : Int) (R : Bool → Option Res) : impl_within.g x a b R = R (decide (a ≤ x) && decide (x ≤ b)) := by
 simp only [impl_within.e, impl_within.b]; cases decide (a ≤ x) <;> rfl
theorem l1In (x a b : Int) (R : Bool → Option Res) : spec_l1In.g x a b R = R (decide (a ≤ x) && decide (x ≤ b)) := by
 simp only [spec_l1In.e, spec_l1In.b]; cases decide (a ≤ x) <;> rfl
theorem numOkI (x : Int) (R : Bool → Option Res) : impl_NumOk.g x R = R (numOk x) := by simp only [impl_NumOk.e, impl_NumOk.b, within, numOk]
theorem numOkS (x : Int) (R : Bool → Option Res) : spec_NumOk.g x R = R (numOk x) := by simp only [spec_NumOk.e, spec_NumOk.b, l1In, numOk]
/-- the first place from i on at which something holds; -1: none -/
def idx {α : Type} (f : α → Bool) : List α → Int → Int
 | [], _ => -1
 | x :: l, i => bif f x then i else idx f l (i + 1)
theorem idx_any {α : Type} (f : α → Bool) (l : List α) : ∀ i : Int, 0 ≤ i → decide (0 ≤ idx f l i) = l.any f := by
 induction l with
 | nil => intro i _; rfl
 | cons x l ih =>
  intro i hi
  cases hf : f x with
  | true => simp [idx, hf, hi]
  | false => simpa [idx, hf] using ih (i + 1) (by omega)
abbrev Tok := Int × Int
abbrev Fn3 := Int × Int × Int
inductive Ast where
 | num (xs : List Int)
 | name (v : Int)
 | set (v : Int) (b : Ast)
 | one (f : Fn3) (b : Ast)
 | two (f : Fn3) (a b : Ast)
def kdT (X : List Tok) (k : Nat) : Int := match X[k]? with | some t => t.1 | none => 0
def vlT (X : List Tok) (k : Nat) : Int := match X[k]? with | some t => t.2 | none => 0
def sgT (X : List Tok) (k : Nat) : Int := if kdT X k = 3 then vlT X k else 0
def fnG (a b d : Int) : Option (Fn3 × Nat) :=
 if a = 0 then none else if a = 111 ∧ b ≠ 0 then some ((b, 111, 0), 2)
 else if b = 47 ∨ b = 92 then some ((a, b, 0), 2)
 else if b = 46 ∧ d ≠ 0 then some ((a, 46, d), 3) else some ((a, 0, 0), 1)
def fnT (X : List Tok) : Option (Fn3 × Nat) := fnG (sgT X 0) (sgT X 1) (sgT X 2)
/-- the numbers that a list begins with -/
def numsT : List Tok → List Int
 | [] => []
 | t :: X => if t.1 = 1 then t.2 :: numsT X else []
/-- the place of the bracket that closes, so many deep -/
def cloT : Nat → List Tok → Option Nat
 | _, [] => none
 | d, t :: X => let e := if t.1 = 4 then d + 1 else if t.1 = 5 then d - 1 else d
  if e = 0 then some 1 else (cloT e X).map (· + 1)
def opdT (f : List Tok → Option (Ast × List Tok)) (X : List Tok) : Option (Ast × List Tok) :=
 if kdT X 0 = 1 then some (.num (numsT X), X.drop (numsT X).length) else if kdT X 0 = 2 then some (.name (vlT X 0), X.drop 1)
 else if kdT X 0 = 4 then (f (X.drop 1)).bind fun p => if kdT p.2 0 = 5 then some (p.1, p.2.drop 1) else none else none
def sp (o1 o2 : Fn3 → Bool) : Nat → List Tok → Option (Ast × List Tok)
 | 0, _ => none
 | n + 1, X =>
  if kdT X 0 = 2 ∧ kdT X 1 = 6 then (sp o1 o2 n (X.drop 2)).map fun p => (.set (vlT X 0) p.1, p.2)
  else if kdT X 0 = 3 then match fnT X with
   | none => none
   | some (f, m) => if o1 f then (sp o1 o2 n (X.drop m)).map fun p => (.one f p.1, p.2) else none
  else match opdT (sp o1 o2 n) X with
   | none => none
   | some (a, r) => match fnT r with
    | none => some (a, r)
    | some (f, m) => if o2 f then (sp o1 o2 n (r.drop m)).map fun p => (.two f a p.1, p.2) else none
def oeT (X : List Tok) : Option Nat := if kdT X 0 = 1 then some (numsT X).length else if kdT X 0 = 2 then some 1 else if kdT X 0 = 4 then cloT 0 X else none
/-- the operand that a line begins with, as many tokens, read by itself -/
def leftI (f : List Tok → Option Ast) (X : List Tok) (k : Nat) : Option Ast := if kdT X 0 = 2 then some (.name (vlT X 0)) else if kdT X 0 = 1 then some (.num (numsT (X.take k))) else f ((X.take (k - 1)).drop 1)
def ip (o1 o2 : Fn3 → Bool) : Nat → List Tok → Option Ast
 | 0, _ => none
 | n + 1, X =>
  if X = [] then none
  else if kdT X 0 = 2 ∧ kdT X 1 = 6 then (ip o1 o2 n (X.drop 2)).map (.set (vlT X 0))
  else if kdT X 0 = 3 then match fnT X with
   | none => none
   | some (f, m) => if o1 f then (ip o1 o2 n (X.drop m)).map (.one f) else none
  else match oeT X with
   | none => none
   | some k =>
    if k = X.length then leftI (ip o1 o2 n) X k else match fnT (X.drop k) with
     | none => none
     | some (f, m) => if o2 f then (ip o1 o2 n (X.drop (k + m))).bind fun b => (leftI (ip o1 o2 n) X k).map fun a => .two f a b else none
theorem kdT_app {X r : List Tok} {k : Nat} (h : k < X.length) : kdT (X ++ r) k = kdT X k := by unfold kdT; rw [List.getElem?_append_left h]
theorem vlT_app {X r : List Tok} {k : Nat} (h : k < X.length) : vlT (X ++ r) k = vlT X k := by unfold vlT; rw [List.getElem?_append_left h]
theorem kdT_s (t : Tok) (X : List Tok) (k : Nat) : kdT (t :: X) (k + 1) = kdT X k := rfl
theorem kdT_lt {X : List Tok} {k : Nat} (h : kdT X k ≠ 0) : k < X.length := by
 unfold kdT at h; split at h
 ·rename_i t ht; exact (List.getElem?_eq_some_iff.1 ht).1
 ·exact absurd rfl h
theorem sgT_kd {X : List Tok} {k : Nat} (h : sgT X k ≠ 0) : kdT X k = 3 := by
 unfold sgT at h; split at h
 ·assumption
 ·exact absurd rfl h
theorem fnG_third (a b d d' : Int) (h : b = 46 → (d = 0 ↔ d' = 0) ∧ (d ≠ 0 → d = d')) : fnG a b d = fnG a b d' := by
 unfold fnG
 by_cases hb : b = 46
 ·obtain ⟨h1, h2⟩ := h hb
  by_cases hd : d = 0
  ·rw [hd, h1.1 hd]
  ·rw [h2 hd]
 ·simp [hb]
theorem fnT_app {X r : List Tok} (hX : X ≠ []) (hr : sgT r 0 = 0) : fnT (X ++ r) = fnT X := by
 match X, hX with
 | [t], _ =>
  show fnG (sgT [t] 0) (sgT r 0) (sgT r 1) = fnG (sgT [t] 0) 0 0
  rw [hr]; exact fnG_third _ _ _ _ (fun h => by cases h)
 | [t, u], _ =>
  show fnG (sgT [t, u] 0) (sgT [u] 0) (sgT r 0) = fnG (sgT [t, u] 0) (sgT [u] 0) 0
  rw [hr]
 | t :: u :: v :: X, _ => rfl
theorem fnG_len {a b d : Int} {f : Fn3} {m : Nat} (h : fnG a b d = some (f, m)) : a ≠ 0 ∧ 1 ≤ m ∧ m ≤ 3 ∧ (2 ≤ m → b ≠ 0) ∧ (3 ≤ m → d ≠ 0) := by
 unfold fnG at h
 split at h
 ·cases h
 ·rename_i h0
  split at h
  ·rename_i h1; cases h; exact ⟨h0, by omega, by omega, fun _ => h1.2, fun h => by omega⟩
  ·split at h
   ·rename_i h1; cases h; exact ⟨h0, by omega, by omega, fun _ => by omega, fun h => by omega⟩
   ·split at h
    ·rename_i h1; cases h; exact ⟨h0, by omega, by omega, fun _ => by omega, fun _ => h1.2⟩
    ·cases h; exact ⟨h0, by omega, by omega, fun h => by omega, fun h => by omega⟩
theorem fnT_len {X : List Tok} {f : Fn3} {m : Nat} (h : fnT X = some (f, m)) : 1 ≤ m ∧ m ≤ X.length ∧ (∀ k, k < m → kdT X k = 3) := by
 obtain ⟨h0, h1, h2, h3, h4⟩ := fnG_len h
 have k0 := sgT_kd h0
 have l0 := kdT_lt (X := X) (k := 0) (by rw [k0]; decide)
 by_cases m1 : 2 ≤ m
 ·have k1 := sgT_kd (h3 m1)
  have l1 := kdT_lt (X := X) (k := 1) (by rw [k1]; decide)
  by_cases m2 : 3 ≤ m
  ·have k2 := sgT_kd (h4 m2)
   have l2 := kdT_lt (X := X) (k := 2) (by rw [k2]; decide)
   exact ⟨h1, by omega, fun k hk => by rcases (by omega : k = 0 ∨ k = 1 ∨ k = 2) with rfl | rfl | rfl <;> assumption⟩
  ·exact ⟨h1, by omega, fun k hk => by rcases (by omega : k = 0 ∨ k = 1) with rfl | rfl <;> assumption⟩
 ·exact ⟨h1, by omega, fun k hk => by obtain rfl : k = 0 := by omega
                                      exact k0⟩
theorem fnG_one {a b d : Int} {f : Fn3} (h : fnG a b d = some (f, 1)) : fnG a 0 0 = some (f, 1) := by
 unfold fnG at h ⊢
 split at h
 ·cases h
 ·rename_i h0
  rw [if_neg h0, if_neg (by simp), if_neg (by decide), if_neg (by simp)]
  split at h
  ·cases h
  ·split at h
   ·cases h
   ·split at h
    ·cases h
    ·exact h
theorem fnG_two {a b d : Int} {f : Fn3} {m : Nat} (hm : m ≤ 2) (h : fnG a b d = some (f, m)) : fnG a b 0 = some (f, m) := by
 unfold fnG at h ⊢
 split at h
 ·cases h
 ·rename_i h0
  rw [if_neg h0]
  split at h
  ·rename_i h2; rw [if_pos h2]; exact h
  ·rename_i h2; rw [if_neg h2]
   split at h
   ·rename_i h3; rw [if_pos h3]; exact h
   ·rename_i h3; rw [if_neg h3]
    split at h
    ·cases h; omega
    ·rw [if_neg (by simp)]; exact h
theorem fnT_cut {X r : List Tok} {f : Fn3} {m : Nat} (h : fnT (X ++ r) = some (f, m)) (hm : m ≤ X.length) : fnT X = some (f, m) := by
 have h1 := (fnT_len h).1
 match X, hm with
 | [], hm => simp at hm; omega
 | [t], hm =>
  simp only [List.length_singleton] at hm
  obtain rfl : m = 1 := by omega
  exact fnG_one h
 | [t, u], hm => exact fnG_two hm h
 | t :: u :: v :: X, _ => exact h
theorem numsT_len : ∀ X : List Tok, (numsT X).length ≤ X.length
 | [] => Nat.le_refl _
 | t :: X => by
  unfold numsT; split
  ·simp only [List.length_cons]; have := numsT_len X; omega
  ·simp
theorem numsT_app {r : List Tok} (hr : kdT r 0 ≠ 1) : ∀ X : List Tok, numsT (X ++ r) = numsT X
 | [] => by
  cases r with
  | nil => rfl
  | cons t r => have hr : ¬ t.1 = 1 := hr
                simp [numsT, hr]
 | t :: X => by simp only [List.cons_append, numsT, numsT_app hr X]
theorem numsT_take : ∀ X : List Tok, numsT (X.take (numsT X).length) = numsT X
 | [] => rfl
 | t :: X => by
  by_cases h : t.1 = 1
  ·simp only [numsT, if_pos h, List.length_cons, List.take_succ_cons, numsT_take X]
  ·simp [numsT, if_neg h]
theorem numsT_kd : ∀ (X : List Tok) (k : Nat), k < (numsT X).length → kdT X k = 1
 | [], k, h => by simp [numsT] at h
 | t :: X, k, h => by
  by_cases ht : t.1 = 1
  ·cases k with
   | zero => exact ht
   | succ k => rw [kdT_s]; exact numsT_kd X k (by simpa [numsT, if_pos ht] using h)
  ·simp [numsT, if_neg ht] at h
theorem numsT_end : ∀ X : List Tok, kdT (X.drop (numsT X).length) 0 ≠ 1
 | [] => by decide
 | t :: X => by
  by_cases ht : t.1 = 1
  ·simp only [numsT, if_pos ht, List.length_cons, List.drop_succ_cons]; exact numsT_end X
  ·simp only [numsT, if_neg ht, List.length_nil, List.drop_zero]; exact ht
theorem numsT_pos {X : List Tok} (h : kdT X 0 = 1) : 1 ≤ (numsT X).length := by
 cases X with
 | nil => cases h
 | cons t X => have h : t.1 = 1 := h
               simp [numsT, if_pos h]
theorem clo_cons (d : Nat) (t : Tok) (X : List Tok) : cloT d (t :: X) = if (if t.1 = 4 then d + 1 else if t.1 = 5 then d - 1 else d) = 0 then some 1 else (cloT (if t.1 = 4 then d + 1 else if t.1 = 5 then d - 1 else d) X).map (· + 1) := rfl
def Bal (C : List Tok) : Prop := ∀ d s, 1 ≤ d → cloT d (C ++ s) = (cloT d s).map (· + C.length)
theorem Bal.nil : Bal [] := fun d s _ => by simp
theorem Bal.app {C D : List Tok} (h : Bal C) (h' : Bal D) : Bal (C ++ D) := fun d s hd => by
 rw [List.append_assoc, h d _ hd, h' d s hd, Option.map_map]
 congr 1; funext x; simp only [Function.comp_apply, List.length_append]; omega
theorem Bal.one {t : Tok} (h4 : t.1 ≠ 4) (h5 : t.1 ≠ 5) : Bal [t] := fun d s hd => by
 show cloT d (t :: s) = _
 rw [clo_cons]
 simp only [if_neg h4, if_neg h5]
 rw [if_neg (by omega)]; rfl
theorem Bal.all : ∀ {C : List Tok}, (∀ k, k < C.length → kdT C k ≠ 4 ∧ kdT C k ≠ 5) → Bal C
 | [], _ => Bal.nil
 | t :: C, h => Bal.app (C := [t]) (Bal.one (h 0 (by simp)).1 (h 0 (by simp)).2) (Bal.all fun k hk => h (k + 1) (by simpa using hk))
theorem Bal.wrap {o c : Tok} {C : List Tok} (ho : o.1 = 4) (hc : c.1 = 5) (h : Bal C) : Bal (o :: (C ++ [c])) := fun d s hd => by
 have e : o :: (C ++ [c]) ++ s = o :: (C ++ (c :: s)) := by simp
 rw [e]
 show cloT d (o :: (C ++ (c :: s))) = _
 rw [clo_cons]
 simp only [if_pos ho]
 rw [if_neg (by omega), h (d + 1) (c :: s) (by omega)]
 have e2 : cloT (d + 1) (c :: s) = (cloT d s).map (· + 1) := by
  show (if _ then _ else _) = _
  rw [if_neg (show ¬ c.1 = 4 by omega)]
  simp only [if_pos hc, Nat.add_sub_cancel]
  rw [if_neg (by omega)]
 rw [e2, Option.map_map, Option.map_map]
 congr 1
 funext x; simp only [Function.comp_apply, List.length_cons, List.length_append, List.length_nil]; omega
theorem clo_wrap {o c : Tok} {C s : List Tok} (ho : o.1 = 4) (hc : c.1 = 5) (h : Bal C) : cloT 0 (o :: (C ++ (c :: s))) = some (C.length + 2) := by
 unfold cloT
 simp only [if_pos ho]
 rw [if_neg (by omega), h (0 + 1) (c :: s) (by omega)]
 have : cloT (0 + 1) (c :: s) = some 1 := by
  show (if _ then _ else _) = _
  rw [if_neg (show ¬ c.1 = 4 by omega)]
  simp [hc]
 rw [this]; simp; omega
theorem clo_spec : ∀ {d : Nat} {X : List Tok} {k : Nat}, 1 ≤ d → cloT d X = some k → ∃ M c Z, X = M ++ c :: Z ∧ c.1 = 5 ∧ k = M.length + 1
 | d, [], k, _, h => by cases h
 | d, t :: X, k, hd, h => by
  unfold cloT at h
  by_cases h4 : t.1 = 4
  ·simp only [if_pos h4] at h
   rw [if_neg (by omega)] at h
   obtain ⟨j, hj, rfl⟩ := Option.map_eq_some_iff.1 h
   obtain ⟨M, c, Z, rfl, hc, rfl⟩ := clo_spec (by omega) hj
   exact ⟨t :: M, c, Z, rfl, hc, rfl⟩
  ·simp only [if_neg h4] at h
   by_cases h5 : t.1 = 5
   ·simp only [if_pos h5] at h
    by_cases h1 : d - 1 = 0
    ·rw [if_pos h1] at h; cases h; exact ⟨[], t, X, rfl, h5, rfl⟩
    ·rw [if_neg h1] at h
     obtain ⟨j, hj, rfl⟩ := Option.map_eq_some_iff.1 h
     obtain ⟨M, c, Z, rfl, hc, rfl⟩ := clo_spec (by omega) hj
     exact ⟨t :: M, c, Z, rfl, hc, rfl⟩
   ·simp only [if_neg h5] at h
    rw [if_neg (by omega)] at h
    obtain ⟨j, hj, rfl⟩ := Option.map_eq_some_iff.1 h
    obtain ⟨M, c, Z, rfl, hc, rfl⟩ := clo_spec (by omega) hj
    exact ⟨t :: M, c, Z, rfl, hc, rfl⟩
def Ends (r : List Tok) : Prop := r = [] ∨ kdT r 0 = 5
theorem Ends.k {r : List Tok} (h : Ends r) : kdT r 0 ≠ 1 ∧ kdT r 0 ≠ 6 ∧ sgT r 0 = 0 := by
 rcases h with rfl | h
 ·exact ⟨by decide, by decide, rfl⟩
 ·refine ⟨by omega, by omega, ?_⟩
  unfold sgT; rw [if_neg (by omega)]
theorem fnT_none {r : List Tok} (h : sgT r 0 = 0) : fnT r = none := by unfold fnT fnG; rw [if_pos h]
theorem kd1_app {X r : List Tok} (hX : X ≠ []) (hr : kdT r 0 ≠ 6) : (kdT (X ++ r) 1 = 6) = (kdT X 1 = 6) := by
 match X, hX with
 | [t], _ => show (kdT r 0 = 6) = ((0 : Int) = 6); simp [hr]
 | t :: u :: X, _ => rfl
theorem ext {o1 o2 : Fn3 → Bool} : ∀ (n : Nat) (X : List Tok) (a : Ast), ip o1 o2 n X = some a → ∀ r, Ends r → sp o1 o2 n (X ++ r) = some (a, r)
 | 0, _, _, h, _, _ => by cases h
 | n + 1, X, a, h, r, hr => by
  have ih := ext (o1 := o1) (o2 := o2) n
  obtain ⟨r1, r2, r3⟩ := hr.k
  unfold ip at h
  by_cases hX : X = []
  ·rw [if_pos hX] at h; cases h
  rw [if_neg hX] at h
  have hl : 0 < X.length := List.length_pos_iff.2 hX
  have k0 : kdT (X ++ r) 0 = kdT X 0 := kdT_app hl
  have v0 : vlT (X ++ r) 0 = vlT X 0 := vlT_app hl
  unfold sp
  rw [k0, v0, fnT_app hX r3]
  have k1 := kd1_app hX r2
  by_cases hs : kdT X 0 = 2 ∧ kdT X 1 = 6
  ·rw [if_pos hs] at h
   rw [if_pos ⟨hs.1, k1.mpr hs.2⟩]
   have hl2 : 1 < X.length := kdT_lt (by rw [hs.2]; decide)
   obtain ⟨b, hb, rfl⟩ := Option.map_eq_some_iff.1 h
   rw [List.drop_append_of_le_length (by omega), ih _ _ hb r hr]; rfl
  rw [if_neg hs] at h
  rw [if_neg (fun hc => hs ⟨hc.1, k1.mp hc.2⟩)]
  by_cases h3 : kdT X 0 = 3
  ·rw [if_pos h3] at h ⊢
   cases hf : fnT X with
   | none => rw [hf] at h; cases h
   | some p =>
    obtain ⟨f, m⟩ := p
    rw [hf] at h
    simp only at h ⊢
    cases ho : o1 f with
    | false => rw [ho] at h; cases h
    | true =>
     rw [ho, if_pos rfl] at h
     rw [if_pos rfl]
     obtain ⟨b, hb, rfl⟩ := Option.map_eq_some_iff.1 h
     rw [List.drop_append_of_le_length (fnT_len hf).2.1, ih _ _ hb r hr]; rfl
  rw [if_neg h3] at h ⊢
  have key : ∀ k, oeT X = some k → k ≤ X.length ∧ ∀ a, leftI (ip o1 o2 n) X k = some a → opdT (sp o1 o2 n) (X ++ r) = some (a, X.drop k ++ r) := by
   intro k hk
   unfold oeT at hk
   by_cases h1 : kdT X 0 = 1
   ·rw [if_pos h1] at hk
    cases hk
    refine ⟨numsT_len X, fun a ha => ?_⟩
    unfold leftI at ha
    rw [if_neg (by omega), if_pos h1, numsT_take] at ha
    cases ha
    unfold opdT
    rw [k0, if_pos h1, numsT_app r1, List.drop_append_of_le_length (numsT_len X)]
   rw [if_neg h1] at hk
   by_cases h2 : kdT X 0 = 2
   ·rw [if_pos h2] at hk
    cases hk
    refine ⟨by omega, fun a ha => ?_⟩
    unfold leftI at ha
    rw [if_pos h2] at ha
    cases ha
    unfold opdT
    rw [k0, if_neg h1, if_pos h2, v0, List.drop_append_of_le_length (by omega)]
   rw [if_neg h2] at hk
   by_cases h4 : kdT X 0 = 4
   ·rw [if_pos h4] at hk
    match X, hX, h4, hk with
    | o :: X', _, h4, hk =>
     have h4 : o.1 = 4 := h4
     rw [clo_cons] at hk
     simp only [if_pos h4] at hk
     rw [if_neg (by omega)] at hk
     obtain ⟨j, hj, rfl⟩ := Option.map_eq_some_iff.1 hk
     obtain ⟨M, c, Z, rfl, hc, rfl⟩ := clo_spec (by omega) hj
     refine ⟨by simp, fun a ha => ?_⟩
     unfold leftI at ha
     rw [if_neg h2, if_neg h1] at ha
     have e1 : ((o :: (M ++ c :: Z)).take (M.length + 1 + 1 - 1)).drop 1 = M := by simp
     rw [e1] at ha
     unfold opdT
     rw [k0, if_neg h1, if_neg h2, if_pos h4]
     have e2 : (o :: (M ++ c :: Z) ++ r).drop 1 = M ++ (c :: (Z ++ r)) := by simp
     rw [e2, ih _ _ ha (c :: (Z ++ r)) (.inr hc)]
     show (if kdT (c :: (Z ++ r)) 0 = 5 then some (a, (c :: (Z ++ r)).drop 1) else none) = _
     rw [if_pos (show kdT (c :: (Z ++ r)) 0 = 5 from hc)]
     simp
   ·rw [if_neg h4] at hk; cases hk
  cases hk : oeT X with
  | none => rw [hk] at h; cases h
  | some k =>
   obtain ⟨key1, key⟩ := key k hk
   rw [hk] at h
   simp only at h
   by_cases hkl : k = X.length
   ·rw [if_pos hkl] at h
    rw [key a h, hkl, List.drop_length, List.nil_append]
    simp only [fnT_none r3]
   ·rw [if_neg hkl] at h
    have hD : X.drop k ≠ [] := fun hd => hkl (Nat.le_antisymm key1 (List.drop_eq_nil_iff.1 hd))
    cases hf : fnT (X.drop k) with
    | none => rw [hf] at h; cases h
    | some p =>
     obtain ⟨f, m⟩ := p
     rw [hf] at h
     simp only at h
     cases ho : o2 f with
     | false => rw [ho] at h; cases h
     | true =>
      rw [ho, if_pos rfl] at h
      obtain ⟨b, hb, h⟩ := Option.bind_eq_some_iff.1 h
      obtain ⟨a', ha, rfl⟩ := Option.map_eq_some_iff.1 h
      rw [key a' ha]
      simp only [fnT_app hD r3, hf, ho, if_true]
      rw [List.drop_append_of_le_length (fnT_len hf).2.1, List.drop_drop, ih _ _ hb r hr]; rfl
theorem restr {o1 o2 : Fn3 → Bool} : ∀ (n : Nat) (Y : List Tok) (a : Ast) (r : List Tok), sp o1 o2 n Y = some (a, r) → ∃ C, Y = C ++ r ∧ C ≠ [] ∧ Bal C ∧ ip o1 o2 n C = some a
 | 0, _, _, _, h => by cases h
 | n + 1, Y, a, r, h => by
  have ih := restr (o1 := o1) (o2 := o2) n
  unfold sp at h
  by_cases hs : kdT Y 0 = 2 ∧ kdT Y 1 = 6
  ·rw [if_pos hs] at h
   obtain ⟨⟨b, r'⟩, hb, e⟩ := Option.map_eq_some_iff.1 h
   cases e
   have hl2 : 1 < Y.length := kdT_lt (by rw [hs.2]; decide)
   match Y, hl2, hs, hb with
   | t :: u :: Y, _, hs, hb =>
    obtain ⟨C, e, hC, hB, hi⟩ := ih _ _ _ hb
    have e : Y = C ++ r' := e
    subst e
    have ht : t.1 = 2 := hs.1
    have hu : u.1 = 6 := hs.2
    refine ⟨t :: u :: C, rfl, by simp, Bal.app (C := [t]) (Bal.one (by omega) (by omega)) (Bal.app (C := [u]) (Bal.one (by omega) (by omega)) hB), ?_⟩
    unfold ip
    rw [if_neg (by simp), if_pos ⟨ht, hu⟩]
    show (ip o1 o2 n C).map _ = _
    rw [hi]; rfl
  rw [if_neg hs] at h
  by_cases h3 : kdT Y 0 = 3
  ·rw [if_pos h3] at h
   cases hf : fnT Y with
   | none => rw [hf] at h; cases h
   | some p =>
    obtain ⟨f, m⟩ := p
    rw [hf] at h
    simp only at h
    cases ho : o1 f with
    | false => rw [ho] at h; cases h
    | true =>
     rw [ho, if_pos rfl] at h
     obtain ⟨⟨b, r'⟩, hb, e⟩ := Option.map_eq_some_iff.1 h
     cases e
     obtain ⟨C, e, hC, hB, hi⟩ := ih _ _ _ hb
     obtain ⟨f1, f2, f3⟩ := fnT_len hf
     obtain ⟨T, hT⟩ : ∃ T, T = Y.take m := ⟨_, rfl⟩
     have hTl : T.length = m := by rw [hT, List.length_take]; omega
     have hY : Y = (T ++ C) ++ r' := by rw [List.append_assoc, ← e, hT, List.take_append_drop]
     have hk : ∀ k, k < T.length → kdT T k = 3 := fun k hk => by
      rw [← f3 k (by omega), hY, List.append_assoc, kdT_app hk]
     have hTC : T ++ C ≠ [] := by simp [hC]
     refine ⟨T ++ C, hY, hTC, Bal.app (Bal.all fun k hk' => by rw [hk k hk']; decide) hB, ?_⟩
     unfold ip
     have z : kdT (T ++ C) 0 = 3 := by rw [kdT_app (by omega), hk 0 (by omega)]
     rw [if_neg hTC, if_neg (by omega), if_pos z]
     rw [hY] at hf
     rw [fnT_cut hf (by simp; omega)]
     simp only [ho, if_true]
     rw [List.drop_left' hTl, hi]; rfl
  rw [if_neg h3] at h
  -- the operand
  cases hop : opdT (sp o1 o2 n) Y with
  | none => rw [hop] at h; cases h
  | some q =>
   obtain ⟨a0, s⟩ := q
   rw [hop] at h
   simp only at h
   have key : ∃ D, Y = D ++ s ∧ D ≠ [] ∧ Bal D ∧ kdT D 0 ≠ 3 ∧ (kdT D 0 = 2 → D.length = 1) ∧ (kdT D 0 = 1 → kdT s 0 ≠ 1) ∧ ∀ z, (kdT D 0 = 1 → kdT z 0 ≠ 1) → oeT (D ++ z) = some D.length ∧ leftI (ip o1 o2 n) (D ++ z) D.length = some a0 := by
    unfold opdT at hop
    by_cases h1 : kdT Y 0 = 1
    ·rw [if_pos h1] at hop
     cases hop
     have hp := numsT_pos h1
     obtain ⟨D, hD⟩ : ∃ D, D = Y.take (numsT Y).length := ⟨_, rfl⟩
     have hDl : D.length = (numsT Y).length := by rw [hD, List.length_take]; have := numsT_len Y; omega
     have hY : Y = D ++ Y.drop (numsT Y).length := by rw [hD, List.take_append_drop]
     have hk : ∀ k, k < D.length → kdT D k = 1 := fun k hk => by
      rw [← numsT_kd Y k (by omega)]; rw [hD]; unfold kdT; rw [List.getElem?_take_of_lt (by omega)]
     have hn : numsT D = numsT Y := by rw [hD, numsT_take]
     have hne : D ≠ [] := by intro he; rw [he] at hDl; simp at hDl; omega
     have z0 := hk 0 (by omega)
     refine ⟨D, hY, hne, Bal.all fun k hk' => (by rw [hk k hk']; decide), by omega, by omega, fun _ => numsT_end Y, fun z hz => ?_⟩
     have e0 : kdT (D ++ z) 0 = 1 := by rw [kdT_app (by omega), z0]
     have en : numsT (D ++ z) = numsT Y := by rw [numsT_app (hz z0), hn]
     constructor
     ·unfold oeT; rw [if_pos e0, en, hDl]
     ·unfold leftI; rw [if_neg (by omega), if_pos e0, List.take_left' rfl, hn]
    rw [if_neg h1] at hop
    by_cases h2 : kdT Y 0 = 2
    ·rw [if_pos h2] at hop
     cases hop
     have hl : 0 < Y.length := kdT_lt (by rw [h2]; decide)
     match Y, hl, h2 with
     | t :: Y, _, h2 =>
      have h2 : t.1 = 2 := h2
      have e : kdT [t] 0 = 2 := h2
      refine ⟨[t], rfl, by simp, Bal.one (by omega) (by omega), by omega, fun _ => rfl, fun h => by omega, fun z _ => ⟨?_, ?_⟩⟩
      ·unfold oeT; rw [if_neg (show ¬ kdT ([t] ++ z) 0 = 1 from fun h => by have : t.1 = 1 := h; omega), if_pos (show kdT ([t] ++ z) 0 = 2 from h2)]; rfl
      ·unfold leftI; rw [if_pos (show kdT ([t] ++ z) 0 = 2 from h2)]; rfl
    rw [if_neg h2] at hop
    by_cases h4 : kdT Y 0 = 4
    ·rw [if_pos h4] at hop
     obtain ⟨⟨a1, p⟩, hp, hq⟩ := Option.bind_eq_some_iff.1 hop
     simp only at hq
     by_cases h5 : kdT p 0 = 5
     ·rw [if_pos h5] at hq
      cases hq
      have hl : 0 < Y.length := kdT_lt (by rw [h4]; decide)
      have hl' : 0 < p.length := kdT_lt (by rw [h5]; decide)
      match Y, hl, h4, p, hl', h5, hp with
      | o :: Y, _, h4, c :: p, _, h5, hp =>
       have h4 : o.1 = 4 := h4
       have h5 : c.1 = 5 := h5
       obtain ⟨C, e, hC, hB, hi⟩ := ih _ _ _ hp
       have e : Y = C ++ c :: p := e
       subst e
       have k0 : ∀ z, kdT (o :: (C ++ [c]) ++ z) 0 = 4 := fun z => h4
       have e0 : kdT (o :: (C ++ [c])) 0 = 4 := h4
       refine ⟨o :: (C ++ [c]), by simp, by simp, hB.wrap h4 h5, by omega, fun h => by omega, fun h => by omega, fun z _ => ⟨?_, ?_⟩⟩
       ·unfold oeT
        rw [k0, if_neg (by decide), if_neg (by decide), if_pos rfl]
        have : o :: (C ++ [c]) ++ z = o :: (C ++ c :: z) := by simp
        rw [this, clo_wrap h4 h5 hB]; simp
       ·unfold leftI
        rw [k0, if_neg (by decide), if_neg (by decide)]
        have : (List.take ((o :: (C ++ [c])).length - 1) (o :: (C ++ [c]) ++ z)).drop 1 = C := by simp
        rw [this, hi]
     ·rw [if_neg h5] at hq; cases hq
    ·rw [if_neg h4] at hop; cases hop
   obtain ⟨D, hY, hD, hB, d3, d2, d1, hz⟩ := key
   have hl : 0 < D.length := List.length_pos_iff.2 hD
   cases hf : fnT s with
   | none =>
    rw [hf] at h
    cases h
    refine ⟨D, hY, hD, hB, ?_⟩
    obtain ⟨z1, z2⟩ := hz [] (fun _ => by decide)
    rw [List.append_nil] at z1 z2
    unfold ip
    rw [if_neg hD, if_neg (fun hc => by
     have := d2 hc.1
     have h6 := kdT_lt (X := D) (k := 1) (by rw [hc.2]; decide)
     omega), if_neg d3, z1]
    simp only [if_true]
    exact z2
   | some p =>
    obtain ⟨f, m⟩ := p
    rw [hf] at h
    simp only at h
    cases ho : o2 f with
    | false => rw [ho] at h; cases h
    | true =>
     rw [ho, if_pos rfl] at h
     obtain ⟨⟨b, r'⟩, hb, e⟩ := Option.map_eq_some_iff.1 h
     cases e
     obtain ⟨C, e, hC, hB', hi⟩ := ih _ _ _ hb
     obtain ⟨f1, f2, f3⟩ := fnT_len hf
     obtain ⟨T, hT⟩ : ∃ T, T = s.take m := ⟨_, rfl⟩
     have hTl : T.length = m := by rw [hT, List.length_take]; omega
     have hs' : s = (T ++ C) ++ r' := by rw [List.append_assoc, ← e, hT, List.take_append_drop]
     have hk : ∀ k, k < T.length → kdT T k = 3 := fun k hk => by
      rw [← f3 k (by omega), hs', List.append_assoc, kdT_app hk]
     have t0 : kdT (T ++ C) 0 = 3 := by rw [kdT_app (by omega), hk 0 (by omega)]
     obtain ⟨z1, z2⟩ := hz (T ++ C) (fun _ => by omega)
     have hne : D ++ (T ++ C) ≠ [] := by simp [hD]
     refine ⟨D ++ (T ++ C), by rw [hY, hs']; simp, hne, Bal.app hB (Bal.app (Bal.all fun k hk' => (by rw [hk k hk']; decide)) hB'), ?_⟩
     have k0 : kdT (D ++ (T ++ C)) 0 = kdT D 0 := kdT_app hl
     unfold ip
     rw [if_neg hne, if_neg (fun hc => by
      rw [k0] at hc
      have hd := d2 hc.1
      have h6 := hc.2
      match D, hd, h6 with
      | [t], _, h6 => have h6 : kdT (T ++ C) 0 = 6 := h6
                      omega), if_neg (by rw [k0]; exact d3), z1]
     simp only
     have hTC : 0 < (T ++ C).length := by rw [List.length_append]; omega
     rw [if_neg (by rw [List.length_append]; omega), List.drop_left' rfl]
     rw [hs'] at hf
     rw [fnT_cut hf (by simp; omega)]
     simp only [ho, if_true]
     have : (D ++ (T ++ C)).drop (D.length + m) = C := by
      rw [← List.drop_drop, List.drop_left' rfl, List.drop_left' hTl]
     rw [this, hi, z2]; rfl
theorem ip_sp {o1 o2 : Fn3 → Bool} (n : Nat) (X : List Tok) (a : Ast) : ip o1 o2 n X = some a ↔ sp o1 o2 n X = some (a, []) := by
 constructor
 ·intro h; have := ext n X a h [] (.inl rfl); rwa [List.append_nil] at this
 ·intro h; obtain ⟨C, e, _, _, hi⟩ := restr n X a [] h; rw [List.append_nil] at e; subst e; exact hi
def unT (r : List Cl) : Tok := ((r.getD 0 (.i 0)).toI, (r.getD 1 (.i 0)).toI)
def mkT (t : Tok) : List Cl := [.i t.1, .i t.2]
theorem tk_getD (X : List Tok) {i : Nat} (hi : i < X.length) : (X.map mkT).getD i [] = mkT (X.getD i (0, 0)) := by
 rw [List.getD_eq_getElem?_getD, List.getD_eq_getElem?_getD, List.getElem?_map, List.getElem?_eq_getElem hi]; rfl
theorem mkT_0 (t : Tok) : ((mkT t).getD 0 (.i 0)).toI = t.1 := rfl
theorem mkT_1 (t : Tok) : ((mkT t).getD 1 (.i 0)).toI = t.2 := rfl
def signS : ByteArray := ⟨#[43, 45, 42, 37, 124, 38, 94, 61, 60, 62, 126, 105, 35, 44, 116, 100, 114, 122, 64, 63, 103, 36, 101, 47, 92, 46, 111]⟩
def hasB (s : ByteArray) (v : Int) : Bool := (bytesOf s).any fun b => b == v
theorem bytesOf_len (s : ByteArray) : (bytesOf s).length = s.size := by rw [bytesOf, List.length_map, Array.length_toList]; rfl
theorem bytesOf_b {s : ByteArray} {i : Nat} (h : i < s.size) : 0 ≤ (bytesOf s).getD i 0 ∧ (bytesOf s).getD i 0 ≤ 255 := by
 have hl : i < (bytesOf s).length := by rw [bytesOf_len]; exact h
 rw [List.getD_eq_getElem?_getD, List.getElem?_eq_getElem hl]
 simp only [Option.getD_some, bytesOf, List.getElem_map]
 have hl2 : i < s.data.toList.length := by rw [Array.length_toList]; exact h
 have := (s.data.toList[i]).toNat_lt
 omega
theorem hasSignI (s : ByteArray) (v : Int) (hs : s.size ≤ 1000000) (R : Bool → Option Res) : impl_hasSign.g s v R = R (hasB s v) := by
 simp only [impl_hasSign.e, impl_hasSign.b]
 have := up0 (N := s.size) (P := fun n i => impl_hasSign.l0 s v (R false) R n (i : Int) = R (((bytesOf s).drop i).any fun b => b == v)) (by omega) ?_ ?_ 0 (by omega)
 ·rw [List.drop_zero] at this; exact this
 ·intro n; simp only [impl_hasSign.l0, impl_hasSign.l0s, ixe, cond_false]; rw [List.drop_eq_nil_of_le (by rw [bytesOf_len]; omega)]; rfl
 ·intro n i hi ih
  have hb := bytesOf_b hi
  simp only [impl_hasSign.l0, impl_hasSign.l0s, ixl hi, ix0, Bool.and_self, cond_true, ixw (by omega : i < 9223372036854775807), Int.toNat_natCast, w64 (n := (bytesOf s).getD i 0) (by omega)]
  rw [drop_cons 0 (by rw [bytesOf_len]; exact hi), List.any_cons]
  cases (bytesOf s).getD i 0 == v with
  | true => rfl
  | false => exact ih
theorem signOkS (v : Int) (R : Bool → Option Res) : spec_l8Sign.g v R = R (hasB signS v) := by
 simp only [spec_l8Sign.e, spec_l8Sign.b]
 have hz : signS.size = 27 := rfl
 have := up0 (N := signS.size) (P := fun n i => spec_l8Sign.l0 v signS (R false) R n (i : Int) = R (((bytesOf signS).drop i).any fun b => b == v)) (by omega) ?_ ?_ 0 (by omega)
 ·rw [List.drop_zero] at this; exact this
 ·intro n; simp only [spec_l8Sign.l0, spec_l8Sign.l0s, ixe, cond_false]; rw [List.drop_eq_nil_of_le (by rw [bytesOf_len]; omega)]; rfl
 ·intro n i hi ih
  have hb := bytesOf_b hi
  simp only [spec_l8Sign.l0, spec_l8Sign.l0s, ixl hi, ix0, Bool.and_self, cond_true, ixw (by omega : i < 9223372036854775807), Int.toNat_natCast, w64 (n := (bytesOf signS).getD i 0) (by omega)]
  rw [drop_cons 0 (by rw [bytesOf_len]; exact hi), List.any_cons]
  cases (bytesOf signS).getD i 0 == v with
  | true => rfl
  | false => exact ih
def tokOk (t : Tok) : Bool := bif t.1 == 1 then numOk t.2 else bif t.1 == 2 then decide (0 ≤ t.2) && decide (t.2 ≤ 25) else bif t.1 == 3 then hasB signS t.2 else bif t.1 == 4 then t.2 == 0 else bif t.1 == 5 then t.2 == 0 else bif t.1 == 6 then t.2 == 0 else false
theorem tokOkS (k v : Int) (R : Bool → Option Res) : spec_TokenOk.g k v R = R (tokOk (k, v)) := by
 simp only [spec_TokenOk.e, spec_TokenOk.b, numOkS, l1In, signOkS, tokOk]
 cases k == 1 <;> cases k == 2 <;> cases k == 3 <;> cases k == 4 <;> cases k == 5 <;> cases k == 6 <;> rfl
theorem tokOkI (k v : Int) (R : Bool → Option Res) : impl_TokenOk.g k v R = R (tokOk (k, v)) := by
 have e : ∀ R, impl_hasSign.g (⟨#[43, 45, 42, 37, 124, 38, 94, 61, 60, 62, 126, 105, 35, 44, 116, 100, 114, 122, 64, 63, 103, 36, 101, 47, 92, 46, 111]⟩ : ByteArray) v R = R (hasB signS v) := fun R => hasSignI signS v (by decide) R
 simp only [impl_TokenOk.e, impl_TokenOk.b, numOkI, within, e, tokOk]
 cases k == 1 <;> cases k == 2 <;> cases k == 3 <;> cases k == 4 <;> cases k == 5 <;> cases k == 6 <;> rfl
def toksOk (X : List Tok) : Bool := X.all tokOk && decide (X.length ≤ 300)
theorem toksS (X : List Tok) (h : X.length ≤ 1048576) (R : Bool → Option Res) : spec_l8Tokens.g (X.map mkT) R = R (toksOk X) := by
 simp only [spec_l8Tokens.e, spec_l8Tokens.b, List.length_map]
 have := up0 (N := X.length) (P := fun n i => spec_l8Tokens.l0 (X.map mkT) (R (decide ((X.length : Int) ≤ 300))) R n (i : Int) = R ((X.drop i).all tokOk && decide (X.length ≤ 300))) (by omega) ?_ ?_ 0 (by omega)
 ·simpa [toksOk] using this
 ·intro n; simp only [spec_l8Tokens.l0, spec_l8Tokens.l0s, List.length_map, ixe, cond_false, List.drop_length, List.all_nil, Bool.true_and]
  congr 1; simp; omega
 ·intro n i hi ih
  simp only [spec_l8Tokens.l0, spec_l8Tokens.l0s, List.length_map, ixl hi, ix0, Bool.and_self, cond_true, Int.toNat_natCast, tk_getD X hi, mkT_0, mkT_1, tokOkS, ixw (by omega : i < 9223372036854775807)]
  rw [drop_cons (0, 0) hi, List.all_cons]
  cases tokOk (X.getD i (0, 0)) with
  | true => exact ih
  | false => rfl
theorem tokIdx (X : List Tok) (h : X.length ≤ 1048576) (R : Int → Option Res) : slices_IndexFunc_impl_Token_impl_Token.g (X.map mkT) R = R (idx (fun x => !tokOk x) X 0) := by
 simp only [slices_IndexFunc_impl_Token_impl_Token.e, slices_IndexFunc_impl_Token_impl_Token.b, List.length_map]
 have := up0 (N := X.length) (P := fun n i => slices_IndexFunc_impl_Token_impl_Token.l0 (X.map mkT) (X.length : Int) (R (-1)) R n (i : Int) = R (idx (fun x => !tokOk x) (X.drop i) i)) (by omega) ?_ ?_ 0 (by omega)
 ·simpa using this
 ·intro n; simp only [slices_IndexFunc_impl_Token_impl_Token.l0, slices_IndexFunc_impl_Token_impl_Token.l0s, ixe, cond_false, List.drop_length, idx]
 ·intro n i hi ih
  simp only [slices_IndexFunc_impl_Token_impl_Token.l0, slices_IndexFunc_impl_Token_impl_Token.l0s, List.length_map, ixl hi, ix0, Bool.and_self, cond_true, Int.toNat_natCast, tk_getD X hi, mkT_0, mkT_1, impl_tokensOk_1.e, impl_tokensOk_1.b, tokOkI, ixw (by omega : i < 9223372036854775807)]
  rw [drop_cons (0, 0) hi, idx]
  cases tokOk (X.getD i (0, 0)) with
  | true => exact ih
  | false => rfl
theorem toksI (X : List Tok) (h : X.length ≤ 1048576) (R : Bool → Option Res) : impl_tokensOk.g (X.map mkT) R = R (toksOk X) := by
 simp only [impl_tokensOk.e, impl_tokensOk.b, slices_ContainsFunc_impl_Token_impl_Token.e, slices_ContainsFunc_impl_Token_impl_Token.b, tokIdx X h, idx_any _ _ _ (Int.le_refl 0), List.length_map, toksOk]
 have e : (!(X.any fun x => !tokOk x)) = X.all tokOk := by rw [List.any_eq_not_all_not]; simp
 by_cases h1 : (X.length : Int) ≤ 300
 ·rw [cd_t (by simpa using h1), e]; congr 1; simp; omega
 ·rw [cd_f (by simpa using h1)]; congr 1; simp; omega
def nodeC (k a b s o w : Int) (xs : List Int) : List Cl := [.i k, .i a, .i b, .i s, .i o, .i w, .l xs]
def asz : Ast → Nat
 | .num _ => 1
 | .name _ => 1
 | .set _ b => asz b + 1
 | .one _ b => asz b + 1
 | .two _ a b => asz a + asz b + 1
def flat : Ast → Nat → List (List Cl)
 | .num xs, _ => [nodeC 1 0 0 0 0 0 xs]
 | .name v, _ => [nodeC 2 v 0 0 0 0 []]
 | .set v b, n => flat b n ++ [nodeC 3 v (((n + asz b : Nat) : Int) - 1) 0 0 0 []]
 | .one f b, n => flat b n ++ [nodeC 4 0 (((n + asz b : Nat) : Int) - 1) f.1 f.2.1 f.2.2 []]
 | .two f a b, n => flat b n ++ flat a (n + asz b) ++ [nodeC 5 (((n + asz b + asz a : Nat) : Int) - 1) (((n + asz b : Nat) : Int) - 1) f.1 f.2.1 f.2.2 []]
theorem flat_len : ∀ (a : Ast) (n : Nat), (flat a n).length = asz a
 | .num _, _ => rfl
 | .name _, _ => rfl
 | .set _ b, n => by simp [flat, asz, flat_len b]
 | .one _ b, n => by simp [flat, asz, flat_len b]
 | .two _ a b, n => by simp [flat, asz, flat_len a, flat_len b]; omega
theorem oeT_le {X : List Tok} {k : Nat} (h : oeT X = some k) : 1 ≤ k ∧ k ≤ X.length ∧ (kdT X 0 = 4 → 2 ≤ k) := by
 unfold oeT at h
 by_cases h1 : kdT X 0 = 1
 ·rw [if_pos h1] at h; cases h; exact ⟨numsT_pos h1, numsT_len X, by omega⟩
 rw [if_neg h1] at h
 by_cases h2 : kdT X 0 = 2
 ·rw [if_pos h2] at h; cases h
  exact ⟨Nat.le_refl _, kdT_lt (X := X) (k := 0) (by rw [h2]; decide), by omega⟩
 rw [if_neg h2] at h
 by_cases h4 : kdT X 0 = 4
 ·rw [if_pos h4] at h
  cases X with
  | nil => cases h
  | cons o X =>
   have h4 : o.1 = 4 := h4
   rw [clo_cons] at h
   simp only [if_pos h4] at h
   rw [if_neg (by omega)] at h
   obtain ⟨j, hj, rfl⟩ := Option.map_eq_some_iff.1 h
   obtain ⟨M, c, Z, rfl, hc, rfl⟩ := clo_spec (by omega) hj
   exact ⟨by omega, by simp, fun _ => by omega⟩
 ·rw [if_neg h4] at h; cases h
theorem ip_size {o1 o2 : Fn3 → Bool} : ∀ (n : Nat) (X : List Tok) (a : Ast), ip o1 o2 n X = some a → asz a ≤ X.length
 | 0, _, _, h => by cases h
 | n + 1, X, a, h => by
  have ih := ip_size (o1 := o1) (o2 := o2) n
  unfold ip at h
  by_cases hX : X = []
  ·rw [if_pos hX] at h; cases h
  rw [if_neg hX] at h
  have hl : 0 < X.length := List.length_pos_iff.2 hX
  by_cases hs : kdT X 0 = 2 ∧ kdT X 1 = 6
  ·rw [if_pos hs] at h
   have hl2 : 1 < X.length := kdT_lt (by rw [hs.2]; decide)
   obtain ⟨b, hb, rfl⟩ := Option.map_eq_some_iff.1 h
   have := ih _ _ hb
   rw [List.length_drop] at this
   simp only [asz]; omega
  rw [if_neg hs] at h
  by_cases h3 : kdT X 0 = 3
  ·rw [if_pos h3] at h
   cases hf : fnT X with
   | none => rw [hf] at h; cases h
   | some p =>
    obtain ⟨f, m⟩ := p
    rw [hf] at h
    simp only at h
    obtain ⟨m1, m2, _⟩ := fnT_len hf
    cases ho : o1 f with
    | false => rw [ho] at h; cases h
    | true =>
     rw [ho, if_pos rfl] at h
     obtain ⟨b, hb, rfl⟩ := Option.map_eq_some_iff.1 h
     have := ih _ _ hb
     rw [List.length_drop] at this
     simp only [asz]; omega
  rw [if_neg h3] at h
  cases hk : oeT X with
  | none => rw [hk] at h; cases h
  | some k =>
   obtain ⟨k1, k2, k3⟩ := oeT_le hk
   rw [hk] at h
   simp only at h
   have left : ∀ a, leftI (ip o1 o2 n) X k = some a → asz a ≤ k := by
    intro a ha
    unfold leftI at ha
    by_cases h2 : kdT X 0 = 2
    ·rw [if_pos h2] at ha; cases ha; exact k1
    rw [if_neg h2] at ha
    by_cases h1 : kdT X 0 = 1
    ·rw [if_pos h1] at ha; cases ha; exact k1
    rw [if_neg h1] at ha
    have := ih _ _ ha
    rw [List.length_drop, List.length_take] at this
    omega
   by_cases hkl : k = X.length
   ·rw [if_pos hkl] at h; have := left a h; omega
   ·rw [if_neg hkl] at h
    cases hf : fnT (X.drop k) with
    | none => rw [hf] at h; cases h
    | some p =>
     obtain ⟨f, m⟩ := p
     rw [hf] at h
     simp only at h
     obtain ⟨m1, m2, _⟩ := fnT_len hf
     rw [List.length_drop] at m2
     cases ho : o2 f with
     | false => rw [ho] at h; cases h
     | true =>
      rw [ho, if_pos rfl] at h
      obtain ⟨b, hb, h⟩ := Option.bind_eq_some_iff.1 h
      obtain ⟨a', ha, rfl⟩ := Option.map_eq_some_iff.1 h
      have e1 := ih _ _ hb
      have e2 := left _ ha
      rw [List.length_drop] at e1
      simp only [asz]; omega
theorem ip_mono {o1 o2 : Fn3 → Bool} : ∀ (n : Nat) (X : List Tok), X.length < n → ip o1 o2 n X = ip o1 o2 (n + 1) X
 | 0, _, h => by omega
 | n + 1, X, h => by
  have ih := ip_mono (o1 := o1) (o2 := o2) n
  rw [ip, ip]
  by_cases hX : X = []
  ·rw [if_pos hX, if_pos hX]
  rw [if_neg hX, if_neg hX]
  have hl : 0 < X.length := List.length_pos_iff.2 hX
  by_cases hs : kdT X 0 = 2 ∧ kdT X 1 = 6
  ·rw [if_pos hs, if_pos hs, ih _ (by rw [List.length_drop]; omega)]
  rw [if_neg hs, if_neg hs]
  by_cases h3 : kdT X 0 = 3
  ·rw [if_pos h3, if_pos h3]
   cases hf : fnT X with
   | none => rfl
   | some p =>
    obtain ⟨f, m⟩ := p
    obtain ⟨m1, m2, _⟩ := fnT_len hf
    simp only
    rw [ih _ (by rw [List.length_drop]; omega)]
  rw [if_neg h3, if_neg h3]
  cases hk : oeT X with
  | none => rfl
  | some k =>
   obtain ⟨k1, k2, k3⟩ := oeT_le hk
   simp only
   have left : leftI (ip o1 o2 n) X k = leftI (ip o1 o2 (n + 1)) X k := by
    unfold leftI
    rw [ih _ (by rw [List.length_drop, List.length_take]; omega)]
   rw [left]
   cases hf : fnT (X.drop k) with
   | none => rfl
   | some p =>
    obtain ⟨f, m⟩ := p
    obtain ⟨m1, m2, _⟩ := fnT_len hf
    rw [List.length_drop] at m2
    simp only
    rw [ih _ (by rw [List.length_drop]; omega)]
theorem ip_fuel {o1 o2 : Fn3 → Bool} (X : List Tok) : ∀ n, X.length < n → ip o1 o2 n X = ip o1 o2 (X.length + 1) X
 | 0, h => by omega
 | n + 1, h => by
  by_cases hn : n = X.length
  ·subst hn; rfl
  ·rw [← ip_mono n X (by omega)]; exact ip_fuel X n (by omega)
/-- a line's tree -/
def ipF (o1 o2 : Fn3 → Bool) (X : List Tok) : Option Ast := ip o1 o2 (X.length + 1) X
theorem orR (b c : Bool) (R : Bool → Option Res) : (bif b then R true else R c) = R (b || c) := by cases b <;> rfl
def sg1 (v : Int) : Bool := v == 43 || (v == 45 || (v == 42 || (v == 124 || v == 126)))
def sg2 (v : Int) : Bool := v == 43 || (v == 45 || (v == 42 || (v == 37 || (v == 124 || (v == 38 || (v == 94 || (v == 61 || (v == 60 || v == 62))))))))
theorem beqc (a b : Int) : (a == b) = (b == a) := by rw [Bool.eq_iff_iff, beq_iff_eq, beq_iff_eq]; exact eq_comm
theorem oneSignI (v : Int) (R : Bool → Option Res) : impl_oneSign.g v R = R (sg1 v) := by
 simp only [impl_oneSign.e, impl_oneSign.b]
 rw [hasSignI _ v (by decide)]
 congr 1
 have e : bytesOf (⟨#[43, 45, 42, 124, 126]⟩ : ByteArray) = [43, 45, 42, 124, 126] := by decide
 rw [hasB, e]
 simp only [List.any_cons, List.any_nil, Bool.or_false, sg1, beqc _ v]
theorem twoSignI (v : Int) (R : Bool → Option Res) : impl_twoSign.g v R = R (sg2 v) := by
 simp only [impl_twoSign.e, impl_twoSign.b]
 rw [hasSignI _ v (by decide)]
 congr 1
 have e : bytesOf (⟨#[43, 45, 42, 37, 124, 38, 94, 61, 60, 62]⟩ : ByteArray) = [43, 45, 42, 37, 124, 38, 94, 61, 60, 62] := by decide
 rw [hasB, e]
 simp only [List.any_cons, List.any_nil, Bool.or_false, sg2, beqc _ v]
theorem sign1S (v : Int) (R : Bool → Option Res) : spec_l1Sign1.g v R = R (sg1 v) := by
 simp only [spec_l1Sign1.e, spec_l1Sign1.b, orR, sg1]
theorem sign2S (v : Int) (R : Bool → Option Res) : spec_l1Sign2.g v R = R (sg2 v) := by
 simp only [spec_l1Sign2.e, spec_l1Sign2.b, orR, sg2]
def ones (v : Int) : Bool := v == 105 || (v == 35 || (v == 44 || (v == 114 || (v == 122 || v == 103))))
def twos (v : Int) : Bool := v == 35 || (v == 44 || (v == 116 || (v == 100 || (v == 114 || (v == 64 || (v == 63 || (v == 36 || v == 101)))))))
def o1F (f : Fn3) : Bool := bif f.2.1 == 0 then bif f.2.2 == 0 then sg1 f.1 || ones f.1 else false else bif f.2.1 == 47 || f.2.1 == 92 then bif f.2.2 == 0 then sg2 f.1 else false else false
def o2F (f : Fn3) : Bool := bif f.2.1 == 0 then bif f.2.2 == 0 then sg2 f.1 || twos f.1 else false else bif f.2.1 == 111 then bif f.2.2 == 0 then sg2 f.1 else false else bif f.2.1 == 46 then sg2 f.1 && sg2 f.2.2 else false
theorem funOneI (a b c : Int) (R : Bool → Option Res) : impl_FunOne.g a b c R = R (o1F (a, b, c)) := by
 have e : ∀ R : Bool → Option Res, impl_hasSign.g (⟨#[105, 35, 44, 114, 122, 103]⟩ : ByteArray) a R = R (ones a) := fun R => by
  rw [hasSignI _ a (by decide)]
  congr 1
  have e : bytesOf (⟨#[105, 35, 44, 114, 122, 103]⟩ : ByteArray) = [105, 35, 44, 114, 122, 103] := by decide
  rw [hasB, e]
  simp only [List.any_cons, List.any_nil, Bool.or_false, ones, beqc _ a]
 simp only [impl_FunOne.e, impl_FunOne.b, oneSignI, twoSignI, e, orR, o1F]
 cases b == 0 <;> cases b == 47 <;> cases b == 92 <;> cases c == 0 <;> rfl
theorem funTwoI (a b c : Int) (R : Bool → Option Res) : impl_FunTwo.g a b c R = R (o2F (a, b, c)) := by
 have e : ∀ R : Bool → Option Res, impl_hasSign.g (⟨#[35, 44, 116, 100, 114, 64, 63, 36, 101]⟩ : ByteArray) a R = R (twos a) := fun R => by
  rw [hasSignI _ a (by decide)]
  congr 1
  have e : bytesOf (⟨#[35, 44, 116, 100, 114, 64, 63, 36, 101]⟩ : ByteArray) = [35, 44, 116, 100, 114, 64, 63, 36, 101] := by decide
  rw [hasB, e]
  simp only [List.any_cons, List.any_nil, Bool.or_false, twos, beqc _ a]
 simp only [impl_FunTwo.e, impl_FunTwo.b, twoSignI, e, orR, o2F]
 cases b == 0 <;> cases b == 111 <;> cases b == 46 <;> cases c == 0 <;> cases sg2 a <;> rfl
theorem funOneS (a b c : Int) (R : Bool → Option Res) : spec_FunOne.g a b c R = R (o1F (a, b, c)) := by
 simp only [spec_FunOne.e, spec_FunOne.b, sign1S, sign2S, orR, o1F, bne]
 by_cases h0 : b = 0
 ·subst h0
  have : (sg1 a || (a == 105 || (a == 35 || (a == 44 || (a == 114 || (a == 122 || a == 103)))))) = (sg1 a || ones a) := rfl
  rw [this]
  cases c == 0 <;> rfl
 ·have : (b == 0) = false := by simpa using h0
  rw [this]
  cases b == 47 <;> cases b == 92 <;> cases c == 0 <;> rfl
theorem funTwoS (a b c : Int) (R : Bool → Option Res) : spec_FunTwo.g a b c R = R (o2F (a, b, c)) := by
 simp only [spec_FunTwo.e, spec_FunTwo.b, sign2S, orR, o2F, bne]
 by_cases h0 : b = 0
 ·subst h0
  have : (sg2 a || (a == 35 || (a == 44 || (a == 116 || (a == 100 || (a == 114 || (a == 64 || (a == 63 || (a == 36 || a == 101))))))))) = (sg2 a || twos a) := rfl
  rw [this]
  cases c == 0 <;> rfl
 ·have e : (b == 0) = false := by simpa using h0
  rw [e]
  by_cases h1 : b = 46
  ·subst h1; cases sg2 a <;> rfl
  ·have e : (b == 46) = false := by simpa using h1
   rw [e]
   cases b == 111 <;> cases c == 0 <;> rfl
theorem kdT_drop (L : List Tok) (i k : Nat) : kdT (L.drop i) k = kdT L (i + k) := by unfold kdT; rw [List.getElem?_drop]
theorem vlT_drop (L : List Tok) (i k : Nat) : vlT (L.drop i) k = vlT L (i + k) := by unfold vlT; rw [List.getElem?_drop]
theorem kdT_get {L : List Tok} {i : Nat} (h : i < L.length) : (L.getD i (0, 0)).1 = kdT L i := by
 unfold kdT; rw [List.getD_eq_getElem?_getD, List.getElem?_eq_getElem h]; rfl
theorem vlT_get {L : List Tok} {i : Nat} (h : i < L.length) : (L.getD i (0, 0)).2 = vlT L i := by
 unfold vlT; rw [List.getD_eq_getElem?_getD, List.getElem?_eq_getElem h]; rfl
theorem kdT_ge {X : List Tok} {k : Nat} (h : X.length ≤ k) : kdT X k = 0 := by unfold kdT; rw [List.getElem?_eq_none h]
theorem bif_l {α : Type} {c : Bool} {x y z : α} (h : c = true → x = y) : (bif c then x else z) = (bif c then y else z) := by
 cases c with
 | true => exact h rfl
 | false => rfl
theorem fnT_R {α : Type} (X : List Tok) (N : α) (S : Int → Int → Int → Nat → α) :
 (bif sgT X 0 == 0 then N else bif sgT X 0 == 111 then (bif sgT X 1 != 0 then S (sgT X 1) 111 0 2 else bif sgT X 1 == 47 then S (sgT X 0) (sgT X 1) 0 2 else bif sgT X 1 == 92 then S (sgT X 0) (sgT X 1) 0 2
  else bif sgT X 1 == 46 then (bif sgT X 2 != 0 then S (sgT X 0) 46 (sgT X 2) 3 else S (sgT X 0) 0 0 1) else S (sgT X 0) 0 0 1)
  else bif sgT X 1 == 47 then S (sgT X 0) (sgT X 1) 0 2 else bif sgT X 1 == 92 then S (sgT X 0) (sgT X 1) 0 2
  else bif sgT X 1 == 46 then (bif sgT X 2 != 0 then S (sgT X 0) 46 (sgT X 2) 3 else S (sgT X 0) 0 0 1) else S (sgT X 0) 0 0 1) =
 match fnT X with | none => N | some (f, m) => S f.1 f.2.1 f.2.2 m := by
 unfold fnT
 generalize sgT X 0 = a
 generalize sgT X 1 = b
 generalize sgT X 2 = d
 unfold fnG
 by_cases h0 : a = 0
 ·simp [h0]
 rw [cd_f (by simpa using h0), if_neg h0]
 by_cases h1 : a = 111
 ·rw [cd_t (by simpa using h1)]
  by_cases h2 : b = 0
  ·subst h2; simp [h1]
  ·rw [cd_t (by simpa using h2), if_pos ⟨h1, h2⟩]
 ·rw [cd_f (by simpa using h1), if_neg (fun h => h1 h.1)]
  by_cases h2 : b = 47
  ·rw [cd_t (by simpa using h2), if_pos (.inl h2)]
  rw [cd_f (by simpa using h2)]
  by_cases h3 : b = 92
  ·rw [cd_t (by simpa using h3), if_pos (.inr h3)]
  rw [cd_f (by simpa using h3), if_neg (by omega)]
  by_cases h4 : b = 46
  ·rw [cd_t (by simpa using h4)]
   by_cases h5 : d = 0
   ·rw [cd_f (by simpa using h5), if_neg (fun h => h.2 h5)]
   ·rw [cd_t (by simpa using h5), if_pos ⟨h4, h5⟩]
  ·rw [cd_f (by simpa using h4), if_neg (fun h => h4 h.1)]
theorem numsT_all : ∀ {Y : List Tok}, (∀ k, k < Y.length → kdT Y k = 1) → numsT Y = Y.map (·.2)
 | [], _ => rfl
 | t :: Y, h => by
  have h0 : t.1 = 1 := h 0 (by simp)
  rw [numsT, if_pos h0, numsT_all fun k hk => h (k + 1) (by simpa using hk)]; rfl
theorem numsT_top (X : List Tok) : kdT X (numsT X).length ≠ 1 := by
 have := numsT_end X
 rwa [kdT_drop, Nat.add_zero] at this
theorem ipF_eq (o1 o2 : Fn3 → Bool) (X : List Tok) : ipF o1 o2 X =
 if X = [] then none
 else if kdT X 0 = 2 ∧ kdT X 1 = 6 then (ipF o1 o2 (X.drop 2)).map (.set (vlT X 0))
 else if kdT X 0 = 3 then match fnT X with
  | none => none
  | some (f, m) => if o1 f then (ipF o1 o2 (X.drop m)).map (.one f) else none
 else match oeT X with
  | none => none
  | some k => if k = X.length then leftI (ipF o1 o2) X k else match fnT (X.drop k) with
   | none => none
   | some (f, m) => if o2 f then (ipF o1 o2 (X.drop (k + m))).bind fun b => (leftI (ipF o1 o2) X k).map fun a => .two f a b else none := by
 have key : ∀ Y : List Tok, Y.length < X.length → ip o1 o2 X.length Y = ipF o1 o2 Y := fun Y h => ip_fuel Y _ h
 conv => lhs; rw [ipF, ip]
 by_cases hX : X = []
 ·rw [if_pos hX, if_pos hX]
 rw [if_neg hX, if_neg hX]
 have hl : 0 < X.length := List.length_pos_iff.2 hX
 by_cases hs : kdT X 0 = 2 ∧ kdT X 1 = 6
 ·rw [if_pos hs, if_pos hs, key _ (by rw [List.length_drop]; omega)]
 rw [if_neg hs, if_neg hs]
 by_cases h3 : kdT X 0 = 3
 ·rw [if_pos h3, if_pos h3]
  cases hf : fnT X with
  | none => rfl
  | some p =>
   obtain ⟨f, m⟩ := p
   obtain ⟨m1, m2, _⟩ := fnT_len hf
   simp only
   rw [key _ (by rw [List.length_drop]; omega)]
 rw [if_neg h3, if_neg h3]
 cases hk : oeT X with
 | none => rfl
 | some k =>
  obtain ⟨k1, k2, k3⟩ := oeT_le hk
  simp only
  have left : leftI (ip o1 o2 X.length) X k = leftI (ipF o1 o2) X k := by
   unfold leftI
   rw [key _ (by rw [List.length_drop, List.length_take]; omega)]
  rw [left]
  cases hf : fnT (X.drop k) with
  | none => rfl
  | some p =>
   obtain ⟨f, m⟩ := p
   obtain ⟨m1, m2, _⟩ := fnT_len hf
   rw [List.length_drop] at m2
   simp only
   rw [key _ (by rw [List.length_drop]; omega)]
def LineR (ns : List (List Cl)) (X : List Tok) (o : Option Ast) (r : Int) (ns' : List (List Cl)) (bad : Bool) : Prop := match o with
 | some a => bad = false ∧ ns' = ns ++ flat a ns.length ∧ r = ((ns.length + asz a : Nat) : Int) - 1
 | none => bad = true ∧ ns'.length ≤ ns.length + X.length
theorem kind (L : List Tok) (i k : Nat) (ns : List (List Cl)) (b : Bool) (hi : i ≤ 100000) (hk : k ≤ 100000) (R : Int → Option Res) : impl_parser_kind.g (k : Int) ns (L.map mkT) (i : Int) b R = R (kdT (L.drop i) k) := by
 simp only [impl_parser_kind.e, impl_parser_kind.b, List.length_map]
 rw [show IntKind.i64.wrap ((i : Int) + (k : Int)) = ((i + k : Nat) : Int) from by rw [w64 (by omega)]; omega, kdT_drop]
 by_cases h : L.length ≤ i + k
 ·rw [cd_t (by simp only [decide_eq_true_eq]; omega), kdT_ge h]
 ·rw [cd_f (by simp only [decide_eq_false_iff_not]; omega), cd_t (by rw [ix0, ixl (by omega)]; rfl), Int.toNat_natCast, tk_getD L (by omega), mkT_0, kdT_get (by omega)]
theorem sign (L : List Tok) (i k : Nat) (ns : List (List Cl)) (b : Bool) (hi : i ≤ 100000) (hk : k ≤ 100000) (R : Int → Option Res) : impl_parser_sign.g (k : Int) ns (L.map mkT) (i : Int) b R = R (sgT (L.drop i) k) := by
 simp only [impl_parser_sign.e, impl_parser_sign.b, List.length_map, kind L i k ns b hi hk]
 rw [show IntKind.i64.wrap ((i : Int) + (k : Int)) = ((i + k : Nat) : Int) from by rw [w64 (by omega)]; omega]
 unfold sgT
 by_cases h : kdT (L.drop i) k = 3
 ·have hl : i + k < L.length := kdT_lt (X := L) (by rw [← kdT_drop, h]; decide)
  rw [if_pos h, h, cd_f (by decide), cd_t (by rw [ix0, ixl hl]; rfl), Int.toNat_natCast, tk_getD L hl, mkT_1, vlT_get hl, vlT_drop]
 ·rw [if_neg h, cd_t (by simpa using h)]
theorem putN (a1 a2 a3 a4 a5 a6 : Int) (ns l : List (List Cl)) (i : Int) (b : Bool) (hn : ns.length ≤ 1000000) (R : Int → List (List Cl) → Option Res) :
 impl_parser_put_i2.g a1 a2 a3 a4 a5 a6 ns l i b R = R ((ns.length : Nat) : Int) (ns ++ [nodeC a1 a2 a3 a4 a5 a6 []]) := by
 simp only [impl_parser_put_i2.e, impl_parser_put_i2.b]
 rw [cd_t (by simp only [decide_eq_true_eq]; omega), List.length_append, List.length_singleton, w64 (by omega)]
 congr 1
 omega
theorem putO (a1 a2 a3 a4 a5 a6 : Int) (a7 : List Int) (ns l : List (List Cl)) (i : Int) (b : Bool) (hn : ns.length ≤ 1000000) (R : Int → List (List Cl) → Option Res) :
 impl_parser_put_i3.g a1 a2 a3 a4 a5 a6 a7 ns l i b R = R ((ns.length : Nat) : Int) (ns ++ [nodeC a1 a2 a3 a4 a5 a6 a7]) := by
 simp only [impl_parser_put_i3.e, impl_parser_put_i3.b]
 rw [cd_t (by simp only [decide_eq_true_eq]; omega), List.length_append, List.length_singleton, w64 (by omega)]
 congr 1
 omega
theorem function (L : List Tok) (i : Nat) (ns : List (List Cl)) (b : Bool) (hi : i ≤ 100000) (R : Int → Int → Int → Int → Bool → Option Res) :
 impl_parser_function.g ns (L.map mkT) (i : Int) b R = match fnT (L.drop i) with | none => R 0 0 0 ((i + 1 : Nat) : Int) true | some (f, m) => R f.1 f.2.1 f.2.2 ((i + m : Nat) : Int) b := by
 have e0 := fun R => sign L i 0 ns b hi (by omega) R
 have e1 := fun R => sign L i 1 ns b hi (by omega) R
 have e2 := fun R => sign L i 2 ns b hi (by omega) R
 simp only [impl_parser_function.e, impl_parser_function.b]
 refine (e0 _).trans ((e1 _).trans ((e2 _).trans ?_))
 rw [show IntKind.i64.wrap ((i : Int) + 1) = ((i + 1 : Nat) : Int) from by rw [w64 (by omega)]; rfl, show IntKind.i64.wrap ((i : Int) + 2) = ((i + 2 : Nat) : Int) from by rw [w64 (by omega)]; rfl, show IntKind.i64.wrap ((i : Int) + 3) = ((i + 3 : Nat) : Int) from by rw [w64 (by omega)]; rfl]
 have := fnT_R (L.drop i) (R 0 0 0 ((i + 1 : Nat) : Int) true) (fun x y z m => R x y z ((i + m : Nat) : Int) b)
 rw [← this]
 exact bif_l fun h => by rw [show sgT (L.drop i) 0 = 0 from by simpa using h]
theorem opEnd (L : List Tok) (i : Nat) (ns : List (List Cl)) (b : Bool) (hL : L.length ≤ 100000) (hi : i ≤ L.length) (R : Int → Bool → List (List Cl) → List (List Cl) → Int → Bool → Option Res) :
 impl_parser_operandEnd.g ns (L.map mkT) (i : Int) b R = match oeT (L.drop i) with | none => R 0 false ns (L.map mkT) (i : Int) b | some k => R ((i + k : Nat) : Int) true ns (L.map mkT) (i : Int) b := by
 simp only [impl_parser_operandEnd.e, impl_parser_operandEnd.b]
 refine (kind L i 0 ns b (by omega) (by omega) _).trans ?_
 unfold oeT
 have hXl : (L.drop i).length = L.length - i := List.length_drop
 by_cases h1 : kdT (L.drop i) 0 = 1
 ·rw [cd_t (by simpa using h1), if_pos h1]
  have hp := numsT_pos h1
  have hl := numsT_len (L.drop i)
  have := up0 (N := (numsT (L.drop i)).length) (P := fun n j => 1 ≤ j → ∀ k : Int → Option Res, impl_parser_operandEnd.l1 ns (L.map mkT) (i : Int) b k n (j : Int) = k (((numsT (L.drop i)).length : Nat) : Int)) (by omega) ?_ ?_ 1 hp (Nat.le_refl 1)
  ·refine (this _).trans ?_
   rw [show IntKind.i64.wrap ((i : Int) + (((numsT (L.drop i)).length : Nat) : Int)) = ((i + (numsT (L.drop i)).length : Nat) : Int) from by rw [w64 (by omega)]; omega]
  ·intro n h k
   simp only [impl_parser_operandEnd.l1, impl_parser_operandEnd.l1s]
   rw [kind L i _ ns b (by omega) (by omega), cd_f (by simpa using numsT_top (L.drop i))]
  ·intro n j hj ih h k
   simp only [impl_parser_operandEnd.l1, impl_parser_operandEnd.l1s]
   rw [kind L i _ ns b (by omega) (by omega), cd_t (by simpa using numsT_kd (L.drop i) j hj), ixw (by omega)]
   exact ih (by omega) k
 rw [cd_f (by simpa using h1), if_neg h1]
 by_cases h2 : kdT (L.drop i) 0 = 2
 ·rw [cd_t (by simpa using h2), if_pos h2, show IntKind.i64.wrap ((i : Int) + 1) = ((i + 1 : Nat) : Int) from by rw [w64 (by omega)]; rfl]
 rw [cd_f (by simpa using h2), if_neg h2]
 by_cases h4 : kdT (L.drop i) 0 = 4
 ·rw [cd_t (by simpa using h4), if_pos h4]
  have := up0 (N := L.length) (P := fun n j => ∀ d : Nat, d ≤ j → (1 ≤ d ∨ kdT L j = 4) → impl_parser_operandEnd.l3 ns (L.map mkT) (i : Int) b (R 0 false ns (L.map mkT) (i : Int) b) R n (d : Int) (j : Int) =
   match cloT d (L.drop j) with | none => R 0 false ns (L.map mkT) (i : Int) b | some k => R ((j + k : Nat) : Int) true ns (L.map mkT) (i : Int) b) (by omega) ?_ ?_ i hi 0 (by omega) (.inr (by rw [← h4, kdT_drop, Nat.add_zero]))
  ·exact this
  ·intro n d _ _
   simp only [impl_parser_operandEnd.l3, impl_parser_operandEnd.l3s, List.length_map]
   rw [cd_f (by simp), List.drop_length]; rfl
  ·intro n j hj ih d hd hor
   simp only [impl_parser_operandEnd.l3, impl_parser_operandEnd.l3s, List.length_map]
   rw [cd_t (ixl hj), cd_t (by rw [ix0, ixl hj]; rfl), Int.toNat_natCast, tk_getD L hj, mkT_0, kdT_get hj, drop_cons (0, 0) hj, clo_cons, kdT_get hj, ixw (i := j) (by omega)]
   have fin : ∀ e : Nat, e ≤ j + 1 → 1 ≤ e → impl_parser_operandEnd.l3 ns (L.map mkT) (i : Int) b (R 0 false ns (L.map mkT) (i : Int) b) R n (e : Int) ((j + 1 : Nat) : Int) =
    match (cloT e (L.drop (j + 1))).map (· + 1) with | none => R 0 false ns (L.map mkT) (i : Int) b | some k => R ((j + k : Nat) : Int) true ns (L.map mkT) (i : Int) b := fun e he h1 => by
    rw [ih e he (.inl h1)]
    cases cloT e (L.drop (j + 1)) with
    | none => rfl
    | some k => simp only [Option.map_some]; rw [show j + 1 + k = j + (k + 1) from by omega]
   by_cases g4 : kdT L j = 4
   ·rw [cd_t (by simpa using g4), cd_f (by rw [w64 (by omega)]; simp; omega), if_pos g4, if_neg (by omega), show IntKind.i64.wrap ((d : Int) + 1) = ((d + 1 : Nat) : Int) from by rw [w64 (by omega)]; rfl]
    exact fin (d + 1) (by omega) (by omega)
   ·have hd1 : 1 ≤ d := hor.resolve_right g4
    rw [cd_f (by simpa using g4), if_neg g4]
    by_cases g5 : kdT L j = 5
    ·rw [cd_t (by simpa using g5), if_pos g5, show IntKind.i64.wrap ((d : Int) - 1) = ((d - 1 : Nat) : Int) from by rw [w64 (by omega)]; omega]
     by_cases hz : d - 1 = 0
     ·rw [hz, cd_t (by rfl), if_pos rfl]
     ·rw [cd_f (by simp; omega), if_neg hz]
      exact fin (d - 1) (by omega) (by omega)
    ·rw [cd_f (by simpa using g5), if_neg g5, cd_f (by simp; omega), if_neg (by omega)]
     exact fin d (by omega) hd1
 ·rw [cd_f (by simpa using h4), if_neg h4]
theorem snoc_map {α β : Type} (f : α → β) (d : List α) (z : α) {i : Nat} (hi : i < d.length) : (d.take i).map f ++ [f (d.getD i z)] = (d.take (i + 1)).map f := by
 rw [List.take_succ_eq_append_getElem hi, List.map_append, List.getD_eq_getElem?_getD, List.getElem?_eq_getElem hi]; rfl
theorem left_size {X : List Tok} {k : Nat} {a : Ast} (h : leftI (ipF o1F o2F) X k = some a) (hk : oeT X = some k) : asz a ≤ k := by
 obtain ⟨k1, k2, k4⟩ := oeT_le hk
 unfold leftI at h
 by_cases h2 : kdT X 0 = 2
 ·rw [if_pos h2] at h; cases h; exact k1
 rw [if_neg h2] at h
 by_cases h1 : kdT X 0 = 1
 ·rw [if_pos h1] at h; cases h; exact k1
 rw [if_neg h1] at h
 have := ip_size _ _ _ h
 rw [List.length_drop, List.length_take] at this
 omega
noncomputable def tail (z : Z_impl_parser_operand) (a1 a2 : List (List Cl)) (a3 : Int) (a4 : Bool) (R : Int → List (List Cl) → Int → List (List Cl) → Bool → Option Res) : Option Res :=
 impl_parser_operandEnd.g a1 a2 a3 a4 fun r30 r31 r32 r33 r34 r35 =>
  bif !r31 then R 0 r33 r34 r32 true
  else bif (r30 == (r33.length : Int)) then (z.1 a3 r30 r32 r33 r34 r35 fun r36 r37 r38 r39 r40 =>
   R r36 r37 r38 r39 r40)
  else (impl_parser_function.g r32 r33 r30 r35 fun r41 r42 r43 r44 r45 =>
  z.2 r32 r33 r44 r45 fun r46 r47 r48 r49 r50 =>
  bif r50 then R 0 r47 r48 r49 true
  else (impl_FunTwo.g r41 r42 r43 fun r51 =>
  bif !r51 then R 0 r47 r48 r49 (!r51)
  else (z.1 a3 r30 r49 r47 r48 (!r51) fun r52 r53 r54 r55 r56 =>
  impl_parser_put_i2.g 5 r52 r46 r41 r42 r43 r55 r53 r54 r56 fun r57 r58 =>
  R r57 r53 r54 r58 r56)))
noncomputable def sgn (z : Z_impl_parser_operand) (a1 a2 : List (List Cl)) (a3 : Int) (a4 : Bool) (R : Int → List (List Cl) → Int → List (List Cl) → Bool → Option Res) : Option Res :=
 impl_parser_function.g a1 a2 a3 a4 fun r15 r16 r17 r18 r19 =>
  z.2 a1 a2 r18 r19 fun r20 r21 r22 r23 r24 =>
  bif r24 then (impl_parser_put_i2.g 4 0 r20 r15 r16 r17 r23 r21 r22 true fun r25 r26 =>
   R r25 r21 r22 r26 true)
  else (impl_FunOne.g r15 r16 r17 fun r27 =>
  impl_parser_put_i2.g 4 0 r20 r15 r16 r17 r23 r21 r22 (!r27) fun r28 r29 =>
  R r28 r21 r22 r29 (!r27))
noncomputable def seti (z : Z_impl_parser_operand) (a1 a2 : List (List Cl)) (a3 : Int) (a4 : Bool) (R : Int → List (List Cl) → Int → List (List Cl) → Bool → Option Res) : Option Res :=
 bif decide (0 ≤ a3) && decide (a3 < (a2.length : Int)) then (z.2 a1 a2 (IntKind.i64.wrap (a3 + 2)) a4 fun r7 r8 r9 r10 r11 =>
  impl_parser_put_i2.g 3 (((a2.getD a3.toNat []).getD 1 (.i 0)).toI) r7 0 0 0 r10 r8 r9 r11 fun r12 r13 =>
  R r12 r8 r9 r13 r11)
  else none
theorem line_cut (n : Nat) (a1 a2 : List (List Cl)) (a3 : Int) (R : Int → List (List Cl) → Int → List (List Cl) → Bool → Option Res) : impl_parser_line.gn (n + 1) a1 a2 a3 false R =
 bif decide ((a2.length : Int) ≤ a3) then R 0 a2 a3 a1 true
 else (impl_parser_kind.g 0 a1 a2 a3 false fun r5 =>
 bif (r5 == 2) then (impl_parser_kind.g 1 a1 a2 a3 false fun r6 => bif (r6 == 6) then seti (rec_impl_parser_operand n) a1 a2 a3 false R
  else (impl_parser_kind.g 0 a1 a2 a3 false fun r14 => bif (r14 == 3) then sgn (rec_impl_parser_operand n) a1 a2 a3 false R else tail (rec_impl_parser_operand n) a1 a2 a3 false R))
 else (impl_parser_kind.g 0 a1 a2 a3 false fun r59 => bif (r59 == 3) then sgn (rec_impl_parser_operand n) a1 a2 a3 false R else tail (rec_impl_parser_operand n) a1 a2 a3 false R)) := rfl
theorem line_bad (n : Nat) (a1 a2 : List (List Cl)) (a3 : Int) (R : Int → List (List Cl) → Int → List (List Cl) → Bool → Option Res) : impl_parser_line.gn (n + 1) a1 a2 a3 true R = R 0 a2 a3 a1 true := rfl
def LineP (n : Nat) : Prop := ∀ (L : List Tok) (i : Nat) (ns : List (List Cl)), L.length ≤ 10000 → i ≤ L.length → ns.length + (L.length - i) ≤ 100000 → L.length - i + 1 ≤ n →
 ∃ (r at' : Int) (ns' : List (List Cl)) (bad : Bool), (∀ R, impl_parser_line.gn n ns (L.map mkT) (i : Int) false R = R r (L.map mkT) at' ns' bad) ∧ LineR ns (L.drop i) (ipF o1F o2F (L.drop i)) r ns' bad
def OperP (n : Nat) : Prop := ∀ (L : List Tok) (i k : Nat) (ns : List (List Cl)) (at' : Int), L.length ≤ 10000 → oeT (L.drop i) = some k → ns.length + k ≤ 100000 → k ≤ n →
 ∃ (r : Int) (ns' : List (List Cl)) (bad : Bool), (∀ R, impl_parser_operand.gn n (i : Int) ((i + k : Nat) : Int) ns (L.map mkT) at' false R = R r (L.map mkT) at' ns' bad) ∧ LineR ns ((L.drop i).take k) (leftI (ipF o1F o2F) (L.drop i) k) r ns' bad
theorem nums_loop (Y : List Tok) (l1 l2 : List (List Cl)) (x15 : Int) (x16 : Bool) (c1 c2 c3 c4 c5 c6 : Int) (k : List Int → Option Res) (hY : Y.length ≤ 100000) :
 impl_parser_operand.l1 (Y.map mkT) (Y.length : Int) l1 l2 x15 x16 c1 c2 c3 c4 c5 c6 k fuel 0 [] = k (Y.map (·.2)) := by
 have := up0 (N := Y.length) (P := fun n i => impl_parser_operand.l1 (Y.map mkT) (Y.length : Int) l1 l2 x15 x16 c1 c2 c3 c4 c5 c6 k n (i : Int) ((Y.take i).map (·.2)) = k (Y.map (·.2))) (by omega) ?_ ?_ 0 (by omega)
 ·exact this
 ·intro n; simp only [impl_parser_operand.l1, impl_parser_operand.l1s, ixe, cond_false, List.take_length]
 ·intro n i hi ih
  simp only [impl_parser_operand.l1, impl_parser_operand.l1s, List.length_map, ixl hi, ix0, Bool.and_self, cond_true, Int.toNat_natCast, tk_getD Y hi, mkT_1, ixw (by omega : i < 9223372036854775807)]
  rw [cd_t (by rw [List.length_take]; simp only [decide_eq_true_eq]; omega), snoc_map (fun t : Tok => t.2) Y (0, 0) hi]
  exact ih
theorem oper_step (n : Nat) (ihL : LineP n) : OperP (n + 1) := by
 intro L i k ns at' hL hk hB hn
 obtain ⟨k1, k2, k4⟩ := oeT_le hk
 rw [List.length_drop] at k2
 have hi : i < L.length := by omega
 have hX0 : kdT (L.drop i) 0 = kdT L i := by rw [kdT_drop, Nat.add_zero]
 have hV0 : vlT (L.drop i) 0 = vlT L i := by rw [vlT_drop, Nat.add_zero]
 have gE : ∀ R, impl_parser_operand.gn (n + 1) (i : Int) ((i + k : Nat) : Int) ns (L.map mkT) at' false R = impl_parser_operand.g (rec_impl_parser_operand n) (i : Int) ((i + k : Nat) : Int) ns (L.map mkT) at' false R := fun R => rfl
 have hk' := hk
 unfold oeT at hk'
 by_cases h1 : kdT (L.drop i) 0 = 1
 ·rw [if_pos h1] at hk'
  cases hk'
  have el : leftI (ipF o1F o2F) (L.drop i) (numsT (L.drop i)).length = some (.num (numsT (L.drop i))) := by
   unfold leftI; rw [if_neg (by omega), if_pos h1, numsT_take]
  refine ⟨((ns.length : Nat) : Int), ns ++ [nodeC 1 0 0 0 0 0 (numsT (L.drop i))], false, fun R => ?_, ?_⟩
  ·rw [gE]
   unfold impl_parser_operand.g
   rw [List.length_map, cd_t (by rw [ix0, ixl hi]; rfl), Int.toNat_natCast, tk_getD L hi, mkT_0, kdT_get hi, ← hX0, h1, cd_f (by decide), cd_t (by decide), cd_t (by simp; omega)]
   rw [Int.toNat_natCast, Nat.add_sub_cancel_left, ← List.map_drop, ← List.map_take, List.length_map]
   have all : ∀ j, j < ((L.drop i).take (numsT (L.drop i)).length).length → kdT ((L.drop i).take (numsT (L.drop i)).length) j = 1 := fun j hj => by
    rw [List.length_take] at hj
    have := numsT_kd (L.drop i) j (by omega)
    unfold kdT at this ⊢
    rw [List.getElem?_take_of_lt (by omega)]; exact this
   have hm := numsT_all all
   rw [numsT_take] at hm
   rw [nums_loop _ _ _ _ _ _ _ _ _ _ _ _ (by rw [List.length_take]; omega), ← hm, putO _ _ _ _ _ _ _ _ _ _ _ (by omega)]
  ·rw [el]; exact ⟨rfl, rfl, by simp [asz]⟩
 rw [if_neg h1] at hk'
 by_cases h2 : kdT (L.drop i) 0 = 2
 ·rw [if_pos h2] at hk'
  cases hk'
  have el : leftI (ipF o1F o2F) (L.drop i) 1 = some (.name (vlT (L.drop i) 0)) := by unfold leftI; rw [if_pos h2]
  refine ⟨((ns.length : Nat) : Int), ns ++ [nodeC 2 (vlT (L.drop i) 0) 0 0 0 0 []], false, fun R => ?_, ?_⟩
  ·rw [gE]
   unfold impl_parser_operand.g
   rw [List.length_map, cd_t (by rw [ix0, ixl hi]; rfl), Int.toNat_natCast, tk_getD L hi, mkT_0, kdT_get hi, ← hX0, h2, cd_t (by decide), mkT_1, vlT_get hi, ← hV0, putN _ _ _ _ _ _ _ _ _ _ (by omega)]
  ·rw [el]; exact ⟨rfl, rfl, by simp [asz]⟩
 rw [if_neg h2] at hk'
 by_cases h4 : kdT (L.drop i) 0 = 4
 ·have hk2 := k4 h4
  have ed : (L.take (i + k - 1)).drop (i + 1) = ((L.drop i).take (k - 1)).drop 1 := by
   rw [List.drop_take, List.drop_take, List.drop_drop]; congr 1; omega
  have tl : (L.take (i + k - 1)).length = i + k - 1 := by rw [List.length_take]; omega
  obtain ⟨r, a2, ns', bad, e1, e2⟩ := ihL (L.take (i + k - 1)) (i + 1) ns (by omega) (by omega) (by omega) (by omega)
  rw [ed] at e2
  have el : leftI (ipF o1F o2F) (L.drop i) k = ipF o1F o2F (((L.drop i).take (k - 1)).drop 1) := by unfold leftI; rw [if_neg h2, if_neg h1]
  refine ⟨r, ns', bad, fun R => ?_, ?_⟩
  ·rw [gE]
   unfold impl_parser_operand.g
   rw [List.length_map, cd_t (by rw [ix0, ixl hi]; rfl), Int.toNat_natCast, tk_getD L hi, mkT_0, kdT_get hi, ← hX0, h4, cd_f (by decide), cd_f (by decide)]
   rw [show IntKind.i64.wrap (((i + k : Nat) : Int) - 1) = ((i + k - 1 : Nat) : Int) from by rw [w64 (by omega)]; omega, cd_t (by simp; omega), Int.toNat_natCast, ← List.map_take, show IntKind.i64.wrap ((i : Int) + 1) = ((i + 1 : Nat) : Int) from by rw [w64 (by omega)]; rfl]
   exact e1 _
  ·rw [el]
   unfold LineR at e2 ⊢
   cases ho : ipF o1F o2F (((L.drop i).take (k - 1)).drop 1) with
   | some a => rw [ho] at e2; exact e2
   | none =>
    rw [ho] at e2
    refine ⟨e2.1, ?_⟩
    have := e2.2
    simp only [List.length_drop, List.length_take] at this ⊢
    omega
 ·rw [if_neg h4] at hk'; cases hk'
theorem line_step (n : Nat) (ihL : LineP n) (ihO : OperP n) : LineP (n + 1) := by
 intro L i ns hL hi hB hn
 have hXl : (L.drop i).length = L.length - i := List.length_drop
 by_cases hle : L.length ≤ i
 ·refine ⟨0, i, ns, true, fun R => ?_, ?_⟩
  ·rw [line_cut, List.length_map, cd_t (by simp only [decide_eq_true_eq]; omega)]
  ·rw [List.drop_eq_nil_of_le hle]; exact ⟨rfl, by simp⟩
 obtain ⟨n, rfl⟩ : ∃ m, n = m + 1 := ⟨n - 1, by omega⟩
 have hX : L.drop i ≠ [] := by intro e; have := congrArg List.length e; rw [hXl, List.length_nil] at this; omega
 have k0 := fun R => kind L i 0 ns false (by omega) (by omega) R
 have k1 := fun R => kind L i 1 ns false (by omega) (by omega) R
 have hV0 : vlT (L.drop i) 0 = vlT L i := by rw [vlT_drop, Nat.add_zero]
 have cut : ∀ R, impl_parser_line.gn (n + 1 + 1) ns (L.map mkT) (i : Int) false R = bif (kdT (L.drop i) 0 == 2) && (kdT (L.drop i) 1 == 6) then seti (rec_impl_parser_operand (n + 1)) ns (L.map mkT) (i : Int) false R
  else bif kdT (L.drop i) 0 == 3 then sgn (rec_impl_parser_operand (n + 1)) ns (L.map mkT) (i : Int) false R else tail (rec_impl_parser_operand (n + 1)) ns (L.map mkT) (i : Int) false R := fun R => by
  rw [line_cut, List.length_map, cd_f (by simp only [decide_eq_false_iff_not]; omega)]
  refine (k0 _).trans ?_
  cases h2 : kdT (L.drop i) 0 == 2 with
  | false => rw [cond_false, Bool.false_and, cond_false]; exact k0 _
  | true =>
   rw [cond_true, Bool.true_and]
   refine (k1 _).trans ?_
   cases kdT (L.drop i) 1 == 6 with
   | true => rfl
   | false => rw [cond_false, cond_false]; exact k0 _
 rw [ipF_eq, if_neg hX]
 by_cases hs : kdT (L.drop i) 0 = 2 ∧ kdT (L.drop i) 1 = 6
 ·rw [if_pos hs]
  have hl2 : 1 < (L.drop i).length := kdT_lt (by rw [hs.2]; decide)
  obtain ⟨r, a2, ns', bad, e1, e2⟩ := ihL L (i + 2) ns hL (by omega) (by omega) (by omega)
  rw [show L.drop (i + 2) = (L.drop i).drop 2 from by rw [List.drop_drop]] at e2
  have hlen : ns'.length ≤ ns.length + (L.length - i - 2) := by
   unfold LineR at e2
   cases ho : ipF o1F o2F ((L.drop i).drop 2) with
   | none => rw [ho] at e2; have := e2.2; rw [List.length_drop] at this; omega
   | some a => rw [ho] at e2; have := ip_size _ _ _ ho; rw [e2.2.1, List.length_append, flat_len]; rw [List.length_drop] at this; omega
  refine ⟨((ns'.length : Nat) : Int), a2, ns' ++ [nodeC 3 (vlT (L.drop i) 0) r 0 0 0 []], bad, fun R => ?_, ?_⟩
  ·rw [cut, hs.1, hs.2, cd_t (by decide)]
   unfold seti
   rw [List.length_map, cd_t (by rw [ix0, ixl (by omega)]; rfl), Int.toNat_natCast, tk_getD L (by omega), mkT_1, vlT_get (by omega), ← hV0, show IntKind.i64.wrap ((i : Int) + 2) = ((i + 2 : Nat) : Int) from by rw [w64 (by omega)]; rfl]
   refine (e1 _).trans ?_
   rw [putN _ _ _ _ _ _ _ _ _ _ (by omega)]
  ·unfold LineR at e2 ⊢
   cases ho : ipF o1F o2F ((L.drop i).drop 2) with
   | none => rw [ho] at e2; exact ⟨e2.1, by rw [List.length_append, List.length_singleton, hXl]; omega⟩
   | some a =>
    rw [ho] at e2
    obtain ⟨g1, g2, g3⟩ := e2
    simp only [Option.map_some]
    refine ⟨g1, ?_, ?_⟩
    ·rw [g2, g3, flat, List.append_assoc]
    ·rw [g2, List.length_append, flat_len, asz]; omega
 rw [if_neg hs]
 have cs : ((kdT (L.drop i) 0 == 2) && (kdT (L.drop i) 1 == 6)) = false := by
  rw [Bool.eq_false_iff]; intro h; rw [Bool.and_eq_true] at h; exact hs ⟨by simpa using h.1, by simpa using h.2⟩
 by_cases h3 : kdT (L.drop i) 0 = 3
 ·rw [if_pos h3]
  cases hf : fnT (L.drop i) with
  | none =>
   refine ⟨((ns.length : Nat) : Int), ((i + 1 : Nat) : Int), ns ++ [nodeC 4 0 0 0 0 0 []], true, fun R => ?_, ⟨rfl, by rw [List.length_append, List.length_singleton, hXl]; omega⟩⟩
   rw [cut, cs, cond_false, h3, cd_t (by decide)]
   unfold sgn
   rw [function L i ns false (by omega), hf]
   show impl_parser_line.gn (n + 1) ns (L.map mkT) ((i + 1 : Nat) : Int) true _ = _
   rw [line_bad, cond_true, putN _ _ _ _ _ _ _ _ _ _ (by omega)]
  | some p =>
   obtain ⟨f, m⟩ := p
   obtain ⟨m1, m2, _⟩ := fnT_len hf
   rw [hXl] at m2
   obtain ⟨r, a2, ns', bad, e1, e2⟩ := ihL L (i + m) ns hL (by omega) (by omega) (by omega)
   rw [show L.drop (i + m) = (L.drop i).drop m from by rw [List.drop_drop]] at e2
   have hlen : ns'.length ≤ ns.length + (L.length - i - m) := by
    unfold LineR at e2
    cases ho : ipF o1F o2F ((L.drop i).drop m) with
    | none => rw [ho] at e2; have := e2.2; rw [List.length_drop] at this; omega
    | some a => rw [ho] at e2; have := ip_size _ _ _ ho; rw [e2.2.1, List.length_append, flat_len]; rw [List.length_drop] at this; omega
   refine ⟨((ns'.length : Nat) : Int), a2, ns' ++ [nodeC 4 0 r f.1 f.2.1 f.2.2 []], bad || !o1F f, fun R => ?_, ?_⟩
   ·rw [cut, cs, cond_false, h3, cd_t (by decide)]
    unfold sgn
    rw [function L i ns false (by omega), hf]
    refine (e1 _).trans ?_
    cases bad with
    | true => rw [cond_true, putN _ _ _ _ _ _ _ _ _ _ (by omega)]; rfl
    | false => rw [cond_false, funOneI, putN _ _ _ _ _ _ _ _ _ _ (by omega)]; rfl
   ·simp only
    unfold LineR at e2 ⊢
    cases ho : ipF o1F o2F ((L.drop i).drop m) with
    | none =>
     rw [ho] at e2
     have : (if o1F f = true then Option.map (Ast.one f) none else none : Option Ast) = none := by split <;> rfl
     rw [this]
     exact ⟨by rw [e2.1]; rfl, by rw [List.length_append, List.length_singleton, hXl]; omega⟩
    | some a =>
     rw [ho] at e2
     obtain ⟨g1, g2, g3⟩ := e2
     cases hof : o1F f with
     | false => exact ⟨by rw [g1]; rfl, by rw [List.length_append, List.length_singleton, hXl]; omega⟩
     | true =>
      simp only [if_true, Option.map_some]
      refine ⟨by rw [g1]; rfl, ?_, ?_⟩
      ·rw [g2, g3, flat, List.append_assoc]
      ·rw [g2, List.length_append, flat_len, asz]; omega
 rw [if_neg h3]
 have c3 : (kdT (L.drop i) 0 == 3) = false := by simpa using h3
 have cutT : ∀ R, impl_parser_line.gn (n + 1 + 1) ns (L.map mkT) (i : Int) false R = tail (rec_impl_parser_operand (n + 1)) ns (L.map mkT) (i : Int) false R := fun R => by
  rw [cut, cs, cond_false, c3, cond_false]
 have opE := fun R => opEnd L i ns false (by omega) hi R
 cases hk : oeT (L.drop i) with
 | none =>
  rw [hk] at opE
  refine ⟨0, i, ns, true, fun R => ?_, ⟨rfl, by omega⟩⟩
  rw [cutT]; unfold tail; rw [opE]; rfl
 | some k =>
  rw [hk] at opE
  simp only at opE
  obtain ⟨k1, k2, _⟩ := oeT_le hk
  rw [hXl] at k2
  simp only
  by_cases hkl : k = (L.drop i).length
  ·rw [if_pos hkl]
   obtain ⟨r, ns', bad, e1, e2⟩ := ihO L i k ns i hL hk (by omega) (by omega)
   refine ⟨r, i, ns', bad, fun R => ?_, ?_⟩
   ·rw [cutT]; unfold tail; rw [opE, Bool.not_true, cond_false, List.length_map, cd_t (by rw [hkl, hXl]; simp; omega)]
    exact e1 _
   ·unfold LineR at e2 ⊢
    cases ho : leftI (ipF o1F o2F) (L.drop i) k with
    | some a => rw [ho] at e2; exact e2
    | none => rw [ho] at e2; exact ⟨e2.1, by have := e2.2; rw [List.length_take] at this; omega⟩
  rw [if_neg hkl]
  have ck : (((i + k : Nat) : Int) == (((L.map mkT).length : Nat) : Int)) = false := by rw [List.length_map]; simp; omega
  have fnE := fun R => function L (i + k) ns false (by omega) R
  rw [show L.drop (i + k) = (L.drop i).drop k from by rw [List.drop_drop]] at fnE
  cases hf : fnT ((L.drop i).drop k) with
  | none =>
   rw [hf] at fnE
   simp only at fnE
   refine ⟨0, ((i + k + 1 : Nat) : Int), ns, true, fun R => ?_, ⟨rfl, by omega⟩⟩
   rw [cutT]; unfold tail; rw [opE, Bool.not_true, cond_false, ck, cond_false, fnE]
   show impl_parser_line.gn (n + 1) ns (L.map mkT) ((i + k + 1 : Nat) : Int) true _ = _
   rw [line_bad, cond_true]
  | some p =>
   obtain ⟨f, m⟩ := p
   rw [hf] at fnE
   simp only at fnE
   obtain ⟨m1, m2, _⟩ := fnT_len hf
   rw [List.length_drop, hXl] at m2
   obtain ⟨r, a2, ns', bad, e1, e2⟩ := ihL L (i + k + m) ns hL (by omega) (by omega) (by omega)
   rw [show L.drop (i + k + m) = (L.drop i).drop (k + m) from by rw [List.drop_drop]; congr 1; omega] at e2
   simp only
   have hlen : ns'.length ≤ ns.length + (L.length - i - k - m) := by
    unfold LineR at e2
    cases ho : ipF o1F o2F ((L.drop i).drop (k + m)) with
    | none => rw [ho] at e2; have := e2.2; rw [List.length_drop] at this; omega
    | some a => rw [ho] at e2; have := ip_size _ _ _ ho; rw [e2.2.1, List.length_append, flat_len]; rw [List.length_drop] at this; omega
   have run : ∀ R, impl_parser_line.gn (n + 1 + 1) ns (L.map mkT) (i : Int) false R = bif bad then R 0 (L.map mkT) a2 ns' true else bif !o2F f then R 0 (L.map mkT) a2 ns' true
    else (impl_parser_operand.gn (n + 1) (i : Int) ((i + k : Nat) : Int) ns' (L.map mkT) a2 false fun r52 r53 r54 r55 r56 => impl_parser_put_i2.g 5 r52 r f.1 f.2.1 f.2.2 r55 r53 r54 r56 fun r57 r58 => R r57 r53 r54 r58 r56) := fun R => by
    rw [cutT]; unfold tail; rw [opE, Bool.not_true, cond_false, ck, cond_false, fnE]
    refine (e1 _).trans ?_
    cases bad with
    | true => rfl
    | false =>
     rw [cond_false, cond_false, funTwoI]
     skip
     cases o2F f <;> rfl
   cases ho : ipF o1F o2F ((L.drop i).drop (k + m)) with
   | none =>
    unfold LineR at e2
    rw [ho] at e2
    refine ⟨0, a2, ns', true, fun R => by rw [run, e2.1]; rfl, ?_⟩
    have : (if o2F f = true then (none : Option Ast).bind fun b => Option.map (fun a => Ast.two f a b) (leftI (ipF o1F o2F) (L.drop i) k) else none) = none := by split <;> rfl
    rw [this]
    exact ⟨rfl, by omega⟩
   | some b =>
    unfold LineR at e2
    rw [ho] at e2
    obtain ⟨g1, g2, g3⟩ := e2
    cases hof : o2F f with
    | false =>
     refine ⟨0, a2, ns', true, fun R => by rw [run, g1, hof]; rfl, ?_⟩
     exact ⟨rfl, by omega⟩
    | true =>
     obtain ⟨r2, ns2, bad2, f1, f2⟩ := ihO L i k ns' a2 hL hk (by omega) (by omega)
     have hlen2 : ns2.length ≤ ns'.length + k := by
      unfold LineR at f2
      cases ho2 : leftI (ipF o1F o2F) (L.drop i) k with
      | none => rw [ho2] at f2; have := f2.2; rw [List.length_take] at this; omega
      | some a => rw [ho2] at f2; rw [f2.2.1, List.length_append, flat_len]; have := left_size ho2 hk; omega
     refine ⟨((ns2.length : Nat) : Int), a2, ns2 ++ [nodeC 5 r2 r f.1 f.2.1 f.2.2 []], bad2, fun R => ?_, ?_⟩
     ·rw [run, g1, hof, Bool.not_true, cond_false, cond_false]
      refine (f1 _).trans ?_
      rw [putN _ _ _ _ _ _ _ _ _ _ (by omega)]
     ·simp only [if_true, Option.bind_some]
      unfold LineR at f2 ⊢
      cases ho2 : leftI (ipF o1F o2F) (L.drop i) k with
      | none => rw [ho2] at f2; exact ⟨f2.1, by rw [List.length_append, List.length_singleton]; omega⟩
      | some a =>
       rw [ho2] at f2
       obtain ⟨q1, q2, q3⟩ := f2
       simp only [Option.map_some]
       have hz : ns'.length = ns.length + asz b := by rw [g2, List.length_append, flat_len]
       refine ⟨q1, ?_, ?_⟩
       ·rw [q2, q3, hz, g3, g2, flat]; simp only [List.append_assoc]
       ·rw [q2, List.length_append, flat_len, hz, asz]; omega
theorem both : ∀ n, LineP n ∧ OperP n
 | 0 => ⟨fun L i ns _ _ _ h => by omega, fun L i k ns a _ hk _ h => by have := (oeT_le hk).1; omega⟩
 | n + 1 => ⟨line_step n (both n).1 (both n).2, oper_step n (both n).1⟩
theorem parseI (X : List Tok) (hX : X.length ≤ 10000) (R : List (List Cl) → Int → Option Res) : impl_Parse.g (X.map mkT) R = bif !toksOk X then R [] 1 else match ipF o1F o2F X with
 | none => R [] 8
 | some a => bif decide (60 < asz a) then R [] 6 else R (flat a 0) 0 := by
 simp only [impl_Parse.e, impl_Parse.b, toksI X (by omega)]
 cases toksOk X with
 | false => rfl
 | true =>
  simp only [Bool.not_true, cond_false]
  obtain ⟨r, a2, ns', bad, e1, e2⟩ := (both fuel).1 X 0 [] hX (by omega) (by simp; omega) (by rw [fuel_eq]; omega)
  rw [impl_parser_line.Ge]
  refine (e1 _).trans ?_
  rw [List.drop_zero] at e2
  unfold LineR at e2
  cases ho : ipF o1F o2F X with
  | none => rw [ho] at e2; rw [e2.1]; rfl
  | some a =>
   rw [ho] at e2
   obtain ⟨g1, g2, g3⟩ := e2
   rw [g1, cond_false, g2, List.nil_append, List.length_nil, flat_len]
   simp only
   have : decide ((60 : Int) < (asz a : Int)) = decide (60 < asz a) := by rw [Bool.eq_iff_iff]; simp; omega
   rw [this]
theorem sp_len {o1 o2 : Fn3 → Bool} {n : Nat} {X r : List Tok} {a : Ast} (h : sp o1 o2 n X = some (a, r)) : r.length + asz a ≤ X.length ∧ r = X.drop (X.length - r.length) := by
 obtain ⟨C, rfl, _, _, hi⟩ := restr n X a r h
 have := ip_size _ _ _ hi
 refine ⟨by rw [List.length_append]; omega, ?_⟩
 rw [List.length_append, Nat.add_sub_cancel, List.drop_left' rfl]
theorem sp_mono {o1 o2 : Fn3 → Bool} : ∀ (n : Nat) (X : List Tok), X.length < n → sp o1 o2 n X = sp o1 o2 (n + 1) X
 | 0, _, h => by omega
 | n + 1, X, h => by
  have ih := sp_mono (o1 := o1) (o2 := o2) n
  rw [sp, sp]
  by_cases hs : kdT X 0 = 2 ∧ kdT X 1 = 6
  ·have hl2 : 1 < X.length := kdT_lt (by rw [hs.2]; decide)
   rw [if_pos hs, if_pos hs, ih _ (by rw [List.length_drop]; omega)]
  rw [if_neg hs, if_neg hs]
  by_cases h3 : kdT X 0 = 3
  ·rw [if_pos h3, if_pos h3]
   cases hf : fnT X with
   | none => rfl
   | some p =>
    obtain ⟨f, m⟩ := p
    obtain ⟨m1, m2, _⟩ := fnT_len hf
    simp only
    rw [ih _ (by rw [List.length_drop]; omega)]
  rw [if_neg h3, if_neg h3]
  have opd : opdT (sp o1 o2 n) X = opdT (sp o1 o2 (n + 1)) X := by
   unfold opdT
   by_cases h4 : kdT X 0 = 4
   ·have hl : 0 < X.length := kdT_lt (by rw [h4]; decide)
    rw [ih _ (by rw [List.length_drop]; omega)]
   ·rw [if_neg h4, if_neg h4]
  rw [opd]
  cases ho : opdT (sp o1 o2 (n + 1)) X with
  | none => rfl
  | some q =>
   obtain ⟨a, r⟩ := q
   simp only
   have hr : r.length < X.length := by
    unfold opdT at ho
    by_cases h1 : kdT X 0 = 1
    ·rw [if_pos h1] at ho; cases ho; have := numsT_pos h1; have := numsT_len X; rw [List.length_drop]; omega
    rw [if_neg h1] at ho
    by_cases h2 : kdT X 0 = 2
    ·rw [if_pos h2] at ho; cases ho
     have hl : 0 < X.length := kdT_lt (by rw [h2]; decide)
     rw [List.length_drop]; omega
    rw [if_neg h2] at ho
    by_cases h4 : kdT X 0 = 4
    ·rw [if_pos h4] at ho
     have hl : 0 < X.length := kdT_lt (by rw [h4]; decide)
     obtain ⟨⟨a1, p⟩, hp, hq⟩ := Option.bind_eq_some_iff.1 ho
     simp only at hq
     split at hq
     ·cases hq
      have := (sp_len hp).1
      rw [List.length_drop] at this ⊢
      omega
     ·cases hq
    ·rw [if_neg h4] at ho; cases ho
   cases hf : fnT r with
   | none => rfl
   | some p =>
    obtain ⟨f, m⟩ := p
    obtain ⟨m1, m2, _⟩ := fnT_len hf
    simp only
    rw [ih _ (by rw [List.length_drop]; omega)]
theorem sp_fuel {o1 o2 : Fn3 → Bool} (X : List Tok) : ∀ n, X.length < n → sp o1 o2 n X = sp o1 o2 (X.length + 1) X
 | 0, h => by omega
 | n + 1, h => by
  by_cases hn : n = X.length
  ·subst hn; rfl
  ·rw [← sp_mono n X (by omega)]; exact sp_fuel X n (by omega)
def spF (o1 o2 : Fn3 → Bool) (X : List Tok) : Option (Ast × List Tok) := sp o1 o2 (X.length + 1) X
theorem opd_len {o1 o2 : Fn3 → Bool} {X r : List Tok} {a : Ast} (ho : opdT (spF o1 o2) X = some (a, r)) : r.length < X.length ∧ r.length + asz a ≤ X.length ∧ r = X.drop (X.length - r.length) := by
 unfold opdT at ho
 by_cases h1 : kdT X 0 = 1
 ·rw [if_pos h1] at ho; cases ho; have := numsT_pos h1; have := numsT_len X
  have e : X.length - (X.length - (numsT X).length) = (numsT X).length := by omega
  simp only [List.length_drop, asz, e]
  exact ⟨by omega, by omega, trivial⟩
 rw [if_neg h1] at ho
 by_cases h2 : kdT X 0 = 2
 ·rw [if_pos h2] at ho; cases ho
  have hl : 0 < X.length := kdT_lt (by rw [h2]; decide)
  have e : X.length - (X.length - 1) = 1 := by omega
  simp only [List.length_drop, asz, e]
  exact ⟨by omega, by omega, trivial⟩
 rw [if_neg h2] at ho
 by_cases h4 : kdT X 0 = 4
 ·rw [if_pos h4] at ho
  have hl : 0 < X.length := kdT_lt (by rw [h4]; decide)
  obtain ⟨⟨a1, p⟩, hp, hq⟩ := Option.bind_eq_some_iff.1 ho
  simp only at hq
  split at hq
  ·rename_i h5
   cases hq
   have hp5 : 0 < p.length := kdT_lt (by rw [h5]; decide)
   obtain ⟨g1, g2⟩ := sp_len hp
   rw [List.length_drop] at g1
   refine ⟨by rw [List.length_drop]; omega, by rw [List.length_drop]; omega, ?_⟩
   conv => lhs; rw [g2]
   rw [List.drop_drop, List.drop_drop, List.length_drop, List.length_drop]
   congr 1; omega
  ·cases hq
 ·rw [if_neg h4] at ho; cases ho
theorem spF_eq (o1 o2 : Fn3 → Bool) (X : List Tok) : spF o1 o2 X =
 if kdT X 0 = 2 ∧ kdT X 1 = 6 then (spF o1 o2 (X.drop 2)).map fun p => (.set (vlT X 0) p.1, p.2)
 else if kdT X 0 = 3 then match fnT X with
  | none => none
  | some (f, m) => if o1 f then (spF o1 o2 (X.drop m)).map fun p => (.one f p.1, p.2) else none
 else match opdT (spF o1 o2) X with
  | none => none
  | some (a, r) => match fnT r with
   | none => some (a, r)
   | some (f, m) => if o2 f then (spF o1 o2 (r.drop m)).map fun p => (.two f a p.1, p.2) else none := by
 have key : ∀ Y : List Tok, Y.length < X.length → sp o1 o2 X.length Y = spF o1 o2 Y := fun Y h => sp_fuel Y _ h
 conv => lhs; rw [spF, sp]
 by_cases hs : kdT X 0 = 2 ∧ kdT X 1 = 6
 ·have hl2 : 1 < X.length := kdT_lt (by rw [hs.2]; decide)
  rw [if_pos hs, if_pos hs, key _ (by rw [List.length_drop]; omega)]
 rw [if_neg hs, if_neg hs]
 by_cases h3 : kdT X 0 = 3
 ·rw [if_pos h3, if_pos h3]
  cases hf : fnT X with
  | none => rfl
  | some p =>
   obtain ⟨f, m⟩ := p
   obtain ⟨m1, m2, _⟩ := fnT_len hf
   simp only
   rw [key _ (by rw [List.length_drop]; omega)]
 rw [if_neg h3, if_neg h3]
 have opd : opdT (sp o1 o2 X.length) X = opdT (spF o1 o2) X := by
  unfold opdT
  by_cases h4 : kdT X 0 = 4
  ·have hl : 0 < X.length := kdT_lt (by rw [h4]; decide)
   rw [key _ (by rw [List.length_drop]; omega)]
  ·rw [if_neg h4, if_neg h4]
 rw [opd]
 cases ho : opdT (spF o1 o2) X with
 | none => rfl
 | some q =>
  obtain ⟨a, r⟩ := q
  have hr := (opd_len ho).1
  simp only
  cases hf : fnT r with
  | none => rfl
  | some p =>
   obtain ⟨f, m⟩ := p
   obtain ⟨m1, m2, _⟩ := fnT_len hf
   simp only
   rw [key _ (by rw [List.length_drop]; omega)]
def shN (n : Int) (r : List Cl) : List Cl :=
 let k := (r.getD 0 (.i 0)).toI
 nodeC k (if k = 5 then (r.getD 1 (.i 0)).toI + n else (r.getD 1 (.i 0)).toI) (if k = 5 ∨ k = 4 ∨ k = 3 then (r.getD 2 (.i 0)).toI + n else (r.getD 2 (.i 0)).toI) ((r.getD 3 (.i 0)).toI) ((r.getD 4 (.i 0)).toI) ((r.getD 5 (.i 0)).toI) ((r.getD 6 (.i 0)).toL)
theorem shN_flat : ∀ (a : Ast) (m n : Nat), (flat a m).map (shN n) = flat a (m + n)
 | .num _, _, _ => rfl
 | .name _, _, _ => rfl
 | .set v b, m, n => by
  simp only [flat, List.map_append, shN_flat b m n, List.map_cons, List.map_nil]
  congr 2
  simp only [shN, nodeC, List.getD_cons_zero, List.getD_cons_succ, Cl.toI, Cl.toL]
  rw [if_neg (by decide), if_pos (by simp)]
  congr 4
  omega
 | .one f b, m, n => by
  simp only [flat, List.map_append, shN_flat b m n, List.map_cons, List.map_nil]
  congr 2
  simp only [shN, nodeC, List.getD_cons_zero, List.getD_cons_succ, Cl.toI, Cl.toL]
  rw [if_neg (by decide), if_pos (by simp)]
  congr 4
  omega
 | .two f a b, m, n => by
  simp only [flat, List.map_append, shN_flat b m n, shN_flat a _ n, List.map_cons, List.map_nil]
  have e : m + asz b + n = m + n + asz b := by omega
  rw [e]
  congr 2
  simp only [shN, nodeC, List.getD_cons_zero, List.getD_cons_succ, Cl.toI, Cl.toL]
  rw [if_pos trivial, if_pos (.inl trivial)]
  have e1 : (((m + asz b + asz a : Nat) : Int) - 1 + (n : Int)) = ((m + n + asz b + asz a : Nat) : Int) - 1 := by omega
  have e2 : (((m + asz b : Nat) : Int) - 1 + (n : Int)) = ((m + n + asz b : Nat) : Int) - 1 := by omega
  rw [e1, e2]
def rowB (M : Nat) (r : List Cl) : Prop :=
 ((r.getD 0 (.i 0)).toI = 5 → -1 ≤ (r.getD 1 (.i 0)).toI ∧ (r.getD 1 (.i 0)).toI ≤ M) ∧ ((r.getD 0 (.i 0)).toI = 5 ∨ (r.getD 0 (.i 0)).toI = 4 ∨ (r.getD 0 (.i 0)).toI = 3 → -1 ≤ (r.getD 2 (.i 0)).toI ∧ (r.getD 2 (.i 0)).toI ≤ M)
theorem rowB_flat (M : Nat) : ∀ (a : Ast) (m : Nat), m + asz a ≤ M → ∀ r ∈ flat a m, rowB M r
 | .num _, m, _, r, hr => by
  rw [flat, List.mem_singleton] at hr; subst hr
  exact ⟨fun h => absurd (show (1 : Int) = 5 from h) (by decide), fun h => absurd (show (1 : Int) = 5 ∨ (1 : Int) = 4 ∨ (1 : Int) = 3 from h) (by decide)⟩
 | .name _, m, _, r, hr => by
  rw [flat, List.mem_singleton] at hr; subst hr
  exact ⟨fun h => absurd (show (2 : Int) = 5 from h) (by decide), fun h => absurd (show (2 : Int) = 5 ∨ (2 : Int) = 4 ∨ (2 : Int) = 3 from h) (by decide)⟩
 | .set v b, m, h, r, hr => by
  rw [asz] at h
  rw [flat, List.mem_append, List.mem_singleton] at hr
  rcases hr with hr | rfl
  ·exact rowB_flat M b m (by omega) r hr
  ·refine ⟨fun h => absurd (show (3 : Int) = 5 from h) (by decide), fun _ => ?_⟩
   show -1 ≤ ((m + asz b : Nat) : Int) - 1 ∧ ((m + asz b : Nat) : Int) - 1 ≤ M
   omega
 | .one f b, m, h, r, hr => by
  rw [asz] at h
  rw [flat, List.mem_append, List.mem_singleton] at hr
  rcases hr with hr | rfl
  ·exact rowB_flat M b m (by omega) r hr
  ·refine ⟨fun h => absurd (show (4 : Int) = 5 from h) (by decide), fun _ => ?_⟩
   show -1 ≤ ((m + asz b : Nat) : Int) - 1 ∧ ((m + asz b : Nat) : Int) - 1 ≤ M
   omega
 | .two f a b, m, h, r, hr => by
  rw [asz] at h
  rw [flat, List.mem_append, List.mem_append, List.mem_singleton] at hr
  rcases hr with (hr | hr) | rfl
  ·exact rowB_flat M b m (by omega) r hr
  ·exact rowB_flat M a _ (by omega) r hr
  ·refine ⟨fun _ => ?_, fun _ => ?_⟩
   ·show -1 ≤ ((m + asz b + asz a : Nat) : Int) - 1 ∧ ((m + asz b + asz a : Nat) : Int) - 1 ≤ M
    omega
   ·show -1 ≤ ((m + asz b : Nat) : Int) - 1 ∧ ((m + asz b : Nat) : Int) - 1 ≤ M
    omega
theorem kindS_L2 (L : List Tok) (i k : Nat) (ns : List (List Cl)) (hi : i ≤ 100000) (hk : k ≤ 100000) (R : Int → Option Res) : spec_l9Kind_L2.g (k : Int) ns (L.map mkT) (i : Int) R = R (kdT (L.drop i) k) := by
 simp only [spec_l9Kind_L2.e, spec_l9Kind_L2.b, List.length_map]
 rw [show IntKind.i64.wrap ((i : Int) + (k : Int)) = ((i + k : Nat) : Int) from by rw [w64 (by omega)]; omega, kdT_drop]
 by_cases h : L.length ≤ i + k
 ·rw [cd_t (by simp only [decide_eq_true_eq]; omega), kdT_ge h]
 ·rw [cd_f (by simp only [decide_eq_false_iff_not]; omega), cd_t (by rw [ix0, ixl (by omega)]; rfl), Int.toNat_natCast, tk_getD L (by omega), mkT_0, kdT_get (by omega)]
theorem behind_L2 (l ns t : List (List Cl)) (i : Int) (hl : l.length ≤ 100000) (hn : ns.length ≤ 100000) (hb : ∀ r ∈ l, rowB 1000000 r) (R : List (List Cl) → Int → List (List Cl) → Option Res) :
 spec_l9Behind_L2.g l ns t i R = R t i (ns ++ l.map (shN (ns.length : Nat))) := by
 simp only [spec_l9Behind_L2.e, spec_l9Behind_L2.b]
 have := up0 (N := l.length) (P := fun n j => ∀ k : List (List Cl) → Option Res, spec_l9Behind_L2.l0 l (ns.length : Int) t i k n (j : Int) (ns ++ (l.take j).map (shN (ns.length : Nat))) = k (ns ++ l.map (shN (ns.length : Nat)))) (by omega) ?_ ?_ 0 (by omega) (fun y11 => R t i y11)
 ·rw [List.take_zero, List.map_nil, List.append_nil] at this; exact this
 ·intro n k; simp only [spec_l9Behind_L2.l0, spec_l9Behind_L2.l0s, ixe, cond_false, List.take_length]
 ·intro n j hj ih k
  obtain ⟨b1, b2⟩ := hb (l.getD j []) (by rw [List.getD_eq_getElem?_getD, List.getElem?_eq_getElem hj]; exact List.getElem_mem hj)
  have hg : decide (((ns ++ (l.take j).map (shN (ns.length : Nat))).length + 1) * 72 ≤ 140737488355328) = true := by
   rw [List.length_append, List.length_map, List.length_take]; simp only [decide_eq_true_eq]; omega
  simp only [spec_l9Behind_L2.l0, spec_l9Behind_L2.l0s, hg, cond_true]
  rw [cd_t (ixl hj), cd_t (by rw [ix0, ixl hj]; rfl), Int.toNat_natCast, ixw (i := j) (by omega)]
  have fin : ∀ row, row = shN (ns.length : Nat) (l.getD j []) → spec_l9Behind_L2.l0 l (ns.length : Int) t i k n ((j + 1 : Nat) : Int) (ns ++ (l.take j).map (shN (ns.length : Nat)) ++ [row]) = k (ns ++ l.map (shN (ns.length : Nat))) := fun row hrow => by
   rw [hrow, List.append_assoc, snoc_map (shN (ns.length : Nat)) l [] hj]; exact ih k
  generalize l.getD j [] = row at b1 b2 fin ⊢
  by_cases h5 : (row.getD 0 (.i 0)).toI = 5
  ·rw [cd_t (by simpa using h5)]
   refine fin _ ?_
   have c1 := b1 h5
   have c2 := b2 (.inl h5)
   rw [w64 (by omega), w64 (by omega), shN]
   simp only [h5, if_true]
   rfl
  rw [cd_f (by simpa using h5)]
  by_cases h4 : (row.getD 0 (.i 0)).toI = 4
  ·rw [cd_t (by simpa using h4)]
   refine fin _ ?_
   have c2 := b2 (.inr (.inl h4))
   rw [w64 (by omega), shN]
   simp only [h4]
   rfl
  rw [cd_f (by simpa using h4)]
  by_cases h3 : (row.getD 0 (.i 0)).toI = 3
  ·rw [cd_t (by simpa using h3)]
   refine fin _ ?_
   have c2 := b2 (.inr (.inr h3))
   rw [w64 (by omega), shN]
   simp only [h3]
   rfl
  rw [cd_f (by simpa using h3)]
  refine fin _ ?_
  rw [shN]
  simp only [h5, h4, h3, if_false, or_self]
  rfl
theorem kindS (L : List Tok) (i k : Nat) (ns : List (List Cl)) (hi : i ≤ 100000) (hk : k ≤ 100000) (R : Int → Option Res) : spec_l9Kind.g (k : Int) ns (L.map mkT) (i : Int) R = R (kdT (L.drop i) k) := by
 simp only [spec_l9Kind.e, spec_l9Kind.b, List.length_map]
 rw [show IntKind.i64.wrap ((i : Int) + (k : Int)) = ((i + k : Nat) : Int) from by rw [w64 (by omega)]; omega, kdT_drop]
 by_cases h : L.length ≤ i + k
 ·rw [cd_t (by simp only [decide_eq_true_eq]; omega), kdT_ge h]
 ·rw [cd_f (by simp only [decide_eq_false_iff_not]; omega), cd_t (by rw [ix0, ixl (by omega)]; rfl), Int.toNat_natCast, tk_getD L (by omega), mkT_0, kdT_get (by omega)]
theorem behind (l ns t : List (List Cl)) (i : Int) (hl : l.length ≤ 100000) (hn : ns.length ≤ 100000) (hb : ∀ r ∈ l, rowB 1000000 r) (R : List (List Cl) → Int → List (List Cl) → Option Res) :
 spec_l9Behind.g l ns t i R = R t i (ns ++ l.map (shN (ns.length : Nat))) := by
 simp only [spec_l9Behind.e, spec_l9Behind.b]
 have := up0 (N := l.length) (P := fun n j => ∀ k : List (List Cl) → Option Res, spec_l9Behind.l0 l (ns.length : Int) t i k n (j : Int) (ns ++ (l.take j).map (shN (ns.length : Nat))) = k (ns ++ l.map (shN (ns.length : Nat)))) (by omega) ?_ ?_ 0 (by omega) (fun y11 => R t i y11)
 ·rw [List.take_zero, List.map_nil, List.append_nil] at this; exact this
 ·intro n k; simp only [spec_l9Behind.l0, spec_l9Behind.l0s, ixe, cond_false, List.take_length]
 ·intro n j hj ih k
  obtain ⟨b1, b2⟩ := hb (l.getD j []) (by rw [List.getD_eq_getElem?_getD, List.getElem?_eq_getElem hj]; exact List.getElem_mem hj)
  have hg : decide (((ns ++ (l.take j).map (shN (ns.length : Nat))).length + 1) * 72 ≤ 140737488355328) = true := by
   rw [List.length_append, List.length_map, List.length_take]; simp only [decide_eq_true_eq]; omega
  simp only [spec_l9Behind.l0, spec_l9Behind.l0s, hg, cond_true]
  rw [cd_t (ixl hj), cd_t (by rw [ix0, ixl hj]; rfl), Int.toNat_natCast, ixw (i := j) (by omega)]
  have fin : ∀ row, row = shN (ns.length : Nat) (l.getD j []) → spec_l9Behind.l0 l (ns.length : Int) t i k n ((j + 1 : Nat) : Int) (ns ++ (l.take j).map (shN (ns.length : Nat)) ++ [row]) = k (ns ++ l.map (shN (ns.length : Nat))) := fun row hrow => by
   rw [hrow, List.append_assoc, snoc_map (shN (ns.length : Nat)) l [] hj]; exact ih k
  generalize l.getD j [] = row at b1 b2 fin ⊢
  by_cases h5 : (row.getD 0 (.i 0)).toI = 5
  ·rw [cd_t (by simpa using h5)]
   refine fin _ ?_
   have c1 := b1 h5
   have c2 := b2 (.inl h5)
   rw [w64 (by omega), w64 (by omega), shN]
   simp only [h5, if_true]
   rfl
  rw [cd_f (by simpa using h5)]
  by_cases h4 : (row.getD 0 (.i 0)).toI = 4
  ·rw [cd_t (by simpa using h4)]
   refine fin _ ?_
   have c2 := b2 (.inr (.inl h4))
   rw [w64 (by omega), shN]
   simp only [h4]
   rfl
  rw [cd_f (by simpa using h4)]
  by_cases h3 : (row.getD 0 (.i 0)).toI = 3
  ·rw [cd_t (by simpa using h3)]
   refine fin _ ?_
   have c2 := b2 (.inr (.inr h3))
   rw [w64 (by omega), shN]
   simp only [h3]
   rfl
  rw [cd_f (by simpa using h3)]
  refine fin _ ?_
  rw [shN]
  simp only [h5, h4, h3, if_false, or_self]
  rfl
theorem sgnKS (L : List Tok) (i k : Nat) (ns : List (List Cl)) (hi : i ≤ 100000) (hk : k ≤ 100000) (R : Int → Option Res) : spec_l9Sign.g (k : Int) ns (L.map mkT) (i : Int) R = R (sgT (L.drop i) k) := by
 simp only [spec_l9Sign.e, spec_l9Sign.b, List.length_map, kindS L i k ns hi hk]
 rw [show IntKind.i64.wrap ((i : Int) + (k : Int)) = ((i + k : Nat) : Int) from by rw [w64 (by omega)]; omega]
 unfold sgT
 by_cases h : kdT (L.drop i) k = 3
 ·have hl : i + k < L.length := kdT_lt (X := L) (by rw [← kdT_drop, h]; decide)
  rw [if_pos h, h, cd_f (by decide), cd_t (by rw [ix0, ixl hl]; rfl), Int.toNat_natCast, tk_getD L hl, mkT_1, vlT_get hl, vlT_drop]
 ·rw [if_neg h, cd_t (by simpa using h)]
theorem funS (L : List Tok) (i : Nat) (ns : List (List Cl)) (hi : i ≤ 100000) (R : Int → Int → Int → Bool → Int → Option Res) :
 spec_l9Fun.g ns (L.map mkT) (i : Int) R = match fnT (L.drop i) with | none => R 0 0 0 false (i : Int) | some (f, m) => R f.1 f.2.1 f.2.2 true ((i + m : Nat) : Int) := by
 have e0 := fun R => sgnKS L i 0 ns hi (by omega) R
 have e1 := fun R => sgnKS L i 1 ns hi (by omega) R
 have e2 := fun R => sgnKS L i 2 ns hi (by omega) R
 simp only [spec_l9Fun.e, spec_l9Fun.b]
 refine (e0 _).trans ((e1 _).trans ((e2 _).trans ?_))
 rw [show IntKind.i64.wrap ((i : Int) + 1) = ((i + 1 : Nat) : Int) from by rw [w64 (by omega)]; rfl, show IntKind.i64.wrap ((i : Int) + 2) = ((i + 2 : Nat) : Int) from by rw [w64 (by omega)]; rfl, show IntKind.i64.wrap ((i : Int) + 3) = ((i + 3 : Nat) : Int) from by rw [w64 (by omega)]; rfl]
 exact fnT_R (L.drop i) (R 0 0 0 false (i : Int)) (fun x y z m => R x y z true ((i + m : Nat) : Int))
def LineS (n : Nat) : Prop := ∀ (L : List Tok) (i : Nat) (ns : List (List Cl)), L.length ≤ 10000 → i ≤ L.length → ns.length + (L.length - i) ≤ 100000 → 2 * (L.length - i) + 2 ≤ n →
 match spF o1F o2F (L.drop i) with
 | some (a, r) => ∀ R, spec_l9Line.gn n ns (L.map mkT) (i : Int) R = R true (L.map mkT) ((L.length - r.length : Nat) : Int) (ns ++ flat a ns.length)
 | none => ∃ x y z, ∀ R, spec_l9Line.gn n ns (L.map mkT) (i : Int) R = R false x y z
def OperS (n : Nat) : Prop := ∀ (L : List Tok) (i : Nat), L.length ≤ 10000 → i ≤ L.length → 2 * (L.length - i) + 1 ≤ n →
 match opdT (spF o1F o2F) (L.drop i) with
 | some (a, r) => ∀ R, spec_l9Operand.gn n [] (L.map mkT) (i : Int) R = R true (L.map mkT) ((L.length - r.length : Nat) : Int) (flat a 0)
 | none => ∃ x y z, ∀ R, spec_l9Operand.gn n [] (L.map mkT) (i : Int) R = R false x y z
theorem numsS_loop (L : List Tok) (i : Nat) (ns : List (List Cl)) (c1 c2 c3 c4 c5 c6 : Int) (hL : L.length ≤ 10000) (hi : i ≤ L.length) (k : List Int → Int → Option Res) :
 spec_l9Operand.l1 ns (L.map mkT) c1 c2 c3 c4 c5 c6 k fuel [] (i : Int) = k (numsT (L.drop i)) ((i + (numsT (L.drop i)).length : Nat) : Int) := by
 have hXl : (L.drop i).length = L.length - i := List.length_drop
 have hnl := numsT_len (L.drop i)
 have := up0 (N := (numsT (L.drop i)).length) (P := fun n j => spec_l9Operand.l1 ns (L.map mkT) c1 c2 c3 c4 c5 c6 k n ((numsT (L.drop i)).take j) ((i + j : Nat) : Int) = k (numsT (L.drop i)) ((i + (numsT (L.drop i)).length : Nat) : Int)) (by omega) ?_ ?_ 0 (by omega)
 ·exact this
 ·intro n
  simp only [spec_l9Operand.l1, spec_l9Operand.l1s]
  refine (kindS L _ 0 ns (by omega) (by omega) _).trans ?_
  rw [kdT_drop, Nat.add_zero, ← kdT_drop, cd_f (by simpa using numsT_top (L.drop i)), List.take_length]
 ·intro n j hj ih
  have hk := numsT_kd (L.drop i) j hj
  simp only [spec_l9Operand.l1, spec_l9Operand.l1s]
  refine (kindS L _ 0 ns (by omega) (by omega) _).trans ?_
  rw [kdT_drop, Nat.add_zero, ← kdT_drop, hk, cd_t (by decide), List.length_map, cd_t (by rw [ix0, ixl (by omega)]; rfl), cd_t (by rw [List.length_take]; simp only [decide_eq_true_eq]; omega), Int.toNat_natCast, tk_getD L (by omega), mkT_1, vlT_get (by omega)]
  have hv : ∀ (X : List Tok) (j : Nat) (h : j < (numsT X).length), (numsT X)[j]? = some (vlT X j) := by
   intro X; induction X with
   | nil => intro j h; simp [numsT] at h
   | cons t X ih =>
    intro j h
    by_cases ht : t.1 = 1
    ·rw [numsT, if_pos ht] at h ⊢
     cases j with
     | zero => rfl
     | succ j => exact ih j (by simpa using h)
    ·rw [numsT, if_neg ht] at h; simp at h
  have e := hv (L.drop i) j hj
  rw [vlT_drop] at e
  have : (numsT (L.drop i)).take j ++ [vlT L (i + j)] = (numsT (L.drop i)).take (j + 1) := by
   rw [List.take_add_one, e]; rfl
  rw [this, ixw (i := i + j) (by omega)]
  exact ih
theorem operS_step (n : Nat) (ihL : LineS n) : OperS (n + 1) := by
 intro L i hL hi hn
 have hXl : (L.drop i).length = L.length - i := List.length_drop
 have gE : ∀ R, spec_l9Operand.gn (n + 1) [] (L.map mkT) (i : Int) R = spec_l9Operand.g (rec_spec_l9Operand n) [] (L.map mkT) (i : Int) R := fun R => rfl
 have k0 := fun R => kindS L i 0 [] (by omega) (by omega) R
 have hX0 : kdT (L.drop i) 0 = kdT L i := by rw [kdT_drop, Nat.add_zero]
 have hV0 : vlT (L.drop i) 0 = vlT L i := by rw [vlT_drop, Nat.add_zero]
 unfold opdT
 by_cases h1 : kdT (L.drop i) 0 = 1
 ·rw [if_pos h1]
  intro R
  have hnl := numsT_len (L.drop i)
  rw [gE]; unfold spec_l9Operand.g
  refine (k0 _).trans ?_
  rw [h1, cd_t (by decide), numsS_loop L i [] _ _ _ _ _ _ hL hi, cd_t (by decide), List.length_drop, hXl]
  rw [show L.length - (L.length - i - (numsT (L.drop i)).length) = i + (numsT (L.drop i)).length from by omega]
  rfl
 rw [if_neg h1]
 by_cases h2 : kdT (L.drop i) 0 = 2
 ·rw [if_pos h2]
  intro R
  have hl : i < L.length := kdT_lt (X := L) (by rw [← hX0, h2]; decide)
  rw [gE]; unfold spec_l9Operand.g
  refine (k0 _).trans ?_
  rw [h2, cd_f (by decide), cd_t (by decide), List.length_map, cd_t (by rw [ix0, ixl hl]; rfl), cd_t (by decide), Int.toNat_natCast, tk_getD L hl, mkT_1, vlT_get hl, ← hV0, ixw (by omega), List.length_drop, hXl]
  rw [show L.length - (L.length - i - 1) = i + 1 from by omega]
  rfl
 rw [if_neg h2]
 by_cases h4 : kdT (L.drop i) 0 = 4
 ·rw [if_pos h4]
  have hl : i < L.length := kdT_lt (X := L) (by rw [← hX0, h4]; decide)
  have ih := ihL L (i + 1) [] hL (by omega) (by simp; omega) (by omega)
  have gO : ∀ R, spec_l9Operand.gn (n + 1) [] (L.map mkT) (i : Int) R = spec_l9Line.gn n [] (L.map mkT) ((i + 1 : Nat) : Int) fun r18 r19 r20 r21 => bif !r18 then R false r19 r20 r21
   else (spec_l9Kind_L2.g 0 r21 r19 r20 fun r22 => bif (r22 != 5) then R false r19 r20 r21 else R true r19 (IntKind.i64.wrap (r20 + 1)) r21) := fun R => by
   rw [gE]; unfold spec_l9Operand.g
   refine (k0 _).trans ?_
   rw [h4, cd_f (by decide), cd_f (by decide), cd_t (by decide), ixw (by omega)]
   rfl
  rw [show L.drop (i + 1) = (L.drop i).drop 1 from by rw [List.drop_drop]] at ih
  cases hs : spF o1F o2F ((L.drop i).drop 1) with
  | none =>
   rw [hs] at ih
   obtain ⟨x, y, z, ih⟩ := ih
   exact ⟨x, y, z, fun R => by rw [gO, ih]; rfl⟩
  | some q =>
   obtain ⟨a, r⟩ := q
   rw [hs] at ih
   simp only [Option.bind_some]
   obtain ⟨s1, s2⟩ := sp_len hs
   rw [List.length_drop, hXl] at s1
   have hr : L.drop (L.length - r.length) = r := by
    conv => rhs; rw [s2]
    rw [List.drop_drop, List.drop_drop, List.length_drop, hXl]; congr 1; omega
   have kE := fun R => kindS_L2 L (L.length - r.length) 0 (flat a 0) (by omega) (by omega) R
   rw [hr] at kE
   by_cases h5 : kdT r 0 = 5
   ·rw [if_pos h5]
    intro R
    have hr1 : 0 < r.length := kdT_lt (by rw [h5]; decide)
    rw [gO, ih, Bool.not_true, cond_false]
    refine (kE _).trans ?_
    rw [h5, cd_f (by decide), ixw (by omega), List.length_drop, show L.length - r.length + 1 = L.length - (r.length - 1) from by omega]
    rfl
   ·rw [if_neg h5]
    refine ⟨L.map mkT, ((L.length - r.length : Nat) : Int), flat a 0, fun R => ?_⟩
    rw [gO, ih, Bool.not_true, cond_false]
    refine (kE _).trans ?_
    rw [cd_t (by simpa using h5)]
    rfl
 ·rw [if_neg h4]
  refine ⟨L.map mkT, i, [], fun R => ?_⟩
  rw [gE]; unfold spec_l9Operand.g
  refine (k0 _).trans ?_
  rw [cd_f (by simpa using h1), cd_f (by simpa using h2), cd_f (by simpa using h4)]
noncomputable def tailS (z : Z_spec_l9Operand) (a1 a2 : List (List Cl)) (a3 : Int) (R : Bool → List (List Cl) → Int → List (List Cl) → Option Res) : Option Res :=
 z.1 ([] : List (List Cl)) a2 a3 fun r20 r21 r22 r23 =>
  bif !r20 then R false a2 a3 a1
  else (spec_l9Fun.g a1 a2 r22 fun r24 r25 r26 r27 r28 =>
  bif !r27 then (spec_l9Behind.g r23 a1 a2 r28 fun r29 r30 r31 =>
   R true r29 r30 r31)
  else (spec_FunTwo.g r24 r25 r26 fun r32 =>
  bif !r32 then R false a2 r28 a1
  else (z.2 a1 a2 r28 fun r33 r34 r35 r36 =>
  bif !r33 then R false r34 r35 r36
  else (spec_l9Behind_L2.g r23 r36 r34 r35 fun r37 r38 r39 =>
  bif decide ((r39.length + 1) * 72 ≤ 140737488355328) then R true r37 r38 (r39 ++ ([[.i 5, .i (IntKind.i64.wrap ((r39.length : Int) - 1)), .i (IntKind.i64.wrap ((r36.length : Int) - 1)), .i r24, .i r25, .i r26, .l ([] : List Int)]] : List (List Cl)))
  else none))))
noncomputable def sgnS (z : Z_spec_l9Operand) (a1 a2 : List (List Cl)) (a3 : Int) (R : Bool → List (List Cl) → Int → List (List Cl) → Option Res) : Option Res :=
 spec_l9Fun.g a1 a2 a3 fun r10 r11 r12 r13 r14 =>
  spec_FunOne.g r10 r11 r12 fun r15 =>
  bif !r15 then R false a2 r14 a1
  else (z.2 a1 a2 r14 fun r16 r17 r18 r19 =>
  bif !r16 then R false r17 r18 r19
  else bif decide ((r19.length + 1) * 72 ≤ 140737488355328) then R true r17 r18 (r19 ++ ([[.i 4, .i 0, .i (IntKind.i64.wrap ((r19.length : Int) - 1)), .i r10, .i r11, .i r12, .l ([] : List Int)]] : List (List Cl)))
  else none)
noncomputable def setS (z : Z_spec_l9Operand) (a1 a2 : List (List Cl)) (a3 : Int) (R : Bool → List (List Cl) → Int → List (List Cl) → Option Res) : Option Res :=
 bif decide (0 ≤ a3) && decide (a3 < (a2.length : Int)) then (z.2 a1 a2 (IntKind.i64.wrap (a3 + 2)) fun r6 r7 r8 r9 =>
  bif !r6 then R false r7 r8 r9
  else bif decide ((r9.length + 1) * 72 ≤ 140737488355328) then R true r7 r8 (r9 ++ ([[.i 3, .i (((a2.getD a3.toNat []).getD 1 (.i 0)).toI), .i (IntKind.i64.wrap ((r9.length : Int) - 1)), .i 0, .i 0, .i 0, .l ([] : List Int)]] : List (List Cl)))
  else none)
  else none
theorem lineS_cut (n : Nat) (a1 a2 : List (List Cl)) (a3 : Int) (R : Bool → List (List Cl) → Int → List (List Cl) → Option Res) : spec_l9Line.gn (n + 1) a1 a2 a3 R =
 spec_l9Kind.g 0 a1 a2 a3 fun r5 =>
 bif (r5 == 2) then (spec_l9Kind.g 1 a1 a2 a3 fun r6 => bif (r6 == 6) then setS (rec_spec_l9Operand n) a1 a2 a3 R
  else bif (r5 == 3) then sgnS (rec_spec_l9Operand n) a1 a2 a3 R else tailS (rec_spec_l9Operand n) a1 a2 a3 R)
 else bif (r5 == 3) then sgnS (rec_spec_l9Operand n) a1 a2 a3 R else tailS (rec_spec_l9Operand n) a1 a2 a3 R := rfl
theorem flat_rows (a : Ast) (h : asz a ≤ 10000) : ∀ r ∈ flat a 0, rowB 1000000 r := rowB_flat 1000000 a 0 (by omega)
theorem lineS_step (n : Nat) (ihL : LineS n) (ihO : OperS n) : LineS (n + 1) := by
 intro L i ns hL hi hB hn
 have hXl : (L.drop i).length = L.length - i := List.length_drop
 have k0 := fun R => kindS L i 0 ns (by omega) (by omega) R
 have k1 := fun R => kindS L i 1 ns (by omega) (by omega) R
 have hV0 : vlT (L.drop i) 0 = vlT L i := by rw [vlT_drop, Nat.add_zero]
 have cut : ∀ R, spec_l9Line.gn (n + 1) ns (L.map mkT) (i : Int) R = bif (kdT (L.drop i) 0 == 2) && (kdT (L.drop i) 1 == 6) then setS (rec_spec_l9Operand n) ns (L.map mkT) (i : Int) R
  else bif kdT (L.drop i) 0 == 3 then sgnS (rec_spec_l9Operand n) ns (L.map mkT) (i : Int) R else tailS (rec_spec_l9Operand n) ns (L.map mkT) (i : Int) R := fun R => by
  rw [lineS_cut]
  refine (k0 _).trans ?_
  cases h2 : kdT (L.drop i) 0 == 2 with
  | false => rw [cond_false, Bool.false_and, cond_false]
  | true =>
   rw [cond_true, Bool.true_and]
   refine (k1 _).trans ?_
   cases kdT (L.drop i) 1 == 6 <;> rfl
 rw [spF_eq]
 by_cases hs : kdT (L.drop i) 0 = 2 ∧ kdT (L.drop i) 1 = 6
 ·rw [if_pos hs]
  have hl2 : 1 < (L.drop i).length := kdT_lt (by rw [hs.2]; decide)
  have ih := ihL L (i + 2) ns hL (by omega) (by omega) (by omega)
  rw [show L.drop (i + 2) = (L.drop i).drop 2 from by rw [List.drop_drop]] at ih
  have cutS : ∀ R, spec_l9Line.gn (n + 1) ns (L.map mkT) (i : Int) R = spec_l9Line.gn n ns (L.map mkT) ((i + 2 : Nat) : Int) fun r6 r7 r8 r9 => bif !r6 then R false r7 r8 r9
   else bif decide ((r9.length + 1) * 72 ≤ 140737488355328) then R true r7 r8 (r9 ++ [nodeC 3 (vlT (L.drop i) 0) (IntKind.i64.wrap ((r9.length : Int) - 1)) 0 0 0 []]) else none := fun R => by
   rw [cut, hs.1, hs.2, cd_t (by decide)]
   unfold setS
   rw [List.length_map, cd_t (by rw [ix0, ixl (by omega)]; rfl), Int.toNat_natCast, tk_getD L (by omega), mkT_1, vlT_get (by omega), ← hV0, show IntKind.i64.wrap ((i : Int) + 2) = ((i + 2 : Nat) : Int) from by rw [w64 (by omega)]; rfl]
   rfl
  cases ho : spF o1F o2F ((L.drop i).drop 2) with
  | none =>
   rw [ho] at ih
   obtain ⟨x, y, z, ih⟩ := ih
   exact ⟨x, y, z, fun R => by rw [cutS, ih]; rfl⟩
  | some q =>
   obtain ⟨a, r⟩ := q
   rw [ho] at ih
   obtain ⟨s1, s2⟩ := sp_len ho
   rw [List.length_drop, hXl] at s1
   intro R
   rw [cutS, ih, Bool.not_true, cond_false, List.length_append, flat_len, cd_t (by simp only [decide_eq_true_eq]; omega), w64 (by omega)]
   rw [flat, List.append_assoc]
 rw [if_neg hs]
 have cs : ((kdT (L.drop i) 0 == 2) && (kdT (L.drop i) 1 == 6)) = false := by
  rw [Bool.eq_false_iff]; intro h; rw [Bool.and_eq_true] at h; exact hs ⟨by simpa using h.1, by simpa using h.2⟩
 by_cases h3 : kdT (L.drop i) 0 = 3
 ·rw [if_pos h3]
  have fE := fun R => funS L i ns (by omega) R
  have cutS : ∀ R, spec_l9Line.gn (n + 1) ns (L.map mkT) (i : Int) R = sgnS (rec_spec_l9Operand n) ns (L.map mkT) (i : Int) R := fun R => by
   rw [cut, cs, cond_false, h3, cd_t (by decide)]
  cases hf : fnT (L.drop i) with
  | none =>
   rw [hf] at fE
   simp only at fE
   refine ⟨L.map mkT, i, ns, fun R => ?_⟩
   rw [cutS]; unfold sgnS
   rw [fE, funOneS]; rfl
  | some p =>
   obtain ⟨f, m⟩ := p
   rw [hf] at fE
   simp only at fE ⊢
   obtain ⟨m1, m2, _⟩ := fnT_len hf
   rw [hXl] at m2
   have ih := ihL L (i + m) ns hL (by omega) (by omega) (by omega)
   rw [show L.drop (i + m) = (L.drop i).drop m from by rw [List.drop_drop]] at ih
   have cutF : ∀ R, spec_l9Line.gn (n + 1) ns (L.map mkT) (i : Int) R = bif !o1F f then R false (L.map mkT) ((i + m : Nat) : Int) ns else spec_l9Line.gn n ns (L.map mkT) ((i + m : Nat) : Int) fun r6 r7 r8 r9 => bif !r6 then R false r7 r8 r9
    else bif decide ((r9.length + 1) * 72 ≤ 140737488355328) then R true r7 r8 (r9 ++ [nodeC 4 0 (IntKind.i64.wrap ((r9.length : Int) - 1)) f.1 f.2.1 f.2.2 []]) else none := fun R => by
    rw [cutS]; unfold sgnS
    rw [fE, funOneS]; rfl
   cases hof : o1F f with
   | false =>
    exact ⟨L.map mkT, ((i + m : Nat) : Int), ns, fun R => by rw [cutF, hof]; rfl⟩
   | true =>
    simp only [if_true]
    cases ho : spF o1F o2F ((L.drop i).drop m) with
    | none =>
     rw [ho] at ih
     obtain ⟨x, y, z, ih⟩ := ih
     exact ⟨x, y, z, fun R => by rw [cutF, hof, Bool.not_true, cond_false, ih]; rfl⟩
    | some q =>
     obtain ⟨a, r⟩ := q
     rw [ho] at ih
     obtain ⟨s1, s2⟩ := sp_len ho
     rw [List.length_drop, hXl] at s1
     intro R
     rw [cutF, hof, Bool.not_true, cond_false, ih, Bool.not_true, cond_false, List.length_append, flat_len, cd_t (by simp only [decide_eq_true_eq]; omega), w64 (by omega)]
     rw [flat, List.append_assoc]
 rw [if_neg h3]
 have c3 : (kdT (L.drop i) 0 == 3) = false := by simpa using h3
 have cutT : ∀ R, spec_l9Line.gn (n + 1) ns (L.map mkT) (i : Int) R = tailS (rec_spec_l9Operand n) ns (L.map mkT) (i : Int) R := fun R => by
  rw [cut, cs, cond_false, c3, cond_false]
 have ihO := ihO L i hL hi (by omega)
 cases hop : opdT (spF o1F o2F) (L.drop i) with
 | none =>
  rw [hop] at ihO
  obtain ⟨x, y, z, ihO⟩ := ihO
  refine ⟨L.map mkT, i, ns, fun R => ?_⟩
  rw [cutT]; unfold tailS
  refine (ihO _).trans ?_
  rfl
 | some q =>
  obtain ⟨a, s⟩ := q
  rw [hop] at ihO
  obtain ⟨p1, p2, p3⟩ := opd_len hop
  rw [hXl] at p1 p2 p3
  simp only at ihO ⊢
  have hsd : L.drop (L.length - s.length) = s := by
   conv => rhs; rw [p3]
   rw [List.drop_drop]; congr 1; omega
  have fE := fun R => funS L (L.length - s.length) ns (by omega) R
  rw [hsd] at fE
  have hfl : (flat a 0).length ≤ 100000 := by rw [flat_len]; omega
  cases hf : fnT s with
  | none =>
   rw [hf] at fE
   simp only at fE ⊢
   intro R
   rw [cutT]; unfold tailS
   refine (ihO _).trans ?_
   rw [Bool.not_true, cond_false, fE, Bool.not_false, cond_true, behind _ _ _ _ hfl (by omega) (flat_rows a (by omega)), shN_flat, Nat.zero_add]
  | some p =>
   obtain ⟨f, m⟩ := p
   rw [hf] at fE
   simp only at fE ⊢
   obtain ⟨m1, m2, _⟩ := fnT_len hf
   have ih := ihL L (L.length - s.length + m) ns hL (by omega) (by omega) (by omega)
   rw [show L.drop (L.length - s.length + m) = s.drop m from by rw [← hsd, List.drop_drop, hsd]] at ih
   have cutF : ∀ R, spec_l9Line.gn (n + 1) ns (L.map mkT) (i : Int) R = bif !o2F f then R false (L.map mkT) ((L.length - s.length + m : Nat) : Int) ns else spec_l9Line.gn n ns (L.map mkT) ((L.length - s.length + m : Nat) : Int) fun r33 r34 r35 r36 =>
    bif !r33 then R false r34 r35 r36
    else (spec_l9Behind_L2.g (flat a 0) r36 r34 r35 fun r37 r38 r39 =>
    bif decide ((r39.length + 1) * 72 ≤ 140737488355328) then R true r37 r38 (r39 ++ [nodeC 5 (IntKind.i64.wrap ((r39.length : Int) - 1)) (IntKind.i64.wrap ((r36.length : Int) - 1)) f.1 f.2.1 f.2.2 []]) else none) := fun R => by
    rw [cutT]; unfold tailS
    refine (ihO _).trans ?_
    rw [Bool.not_true, cond_false, fE, Bool.not_true, cond_false, funTwoS]; rfl
   cases hof : o2F f with
   | false => exact ⟨L.map mkT, ((L.length - s.length + m : Nat) : Int), ns, fun R => by rw [cutF, hof]; rfl⟩
   | true =>
    simp only [if_true]
    cases ho : spF o1F o2F (s.drop m) with
    | none =>
     rw [ho] at ih
     obtain ⟨x, y, z, ih⟩ := ih
     exact ⟨x, y, z, fun R => by rw [cutF, hof, Bool.not_true, cond_false, ih]; rfl⟩
    | some q =>
     obtain ⟨b, r⟩ := q
     rw [ho] at ih
     obtain ⟨s1, s2⟩ := sp_len ho
     rw [List.length_drop] at s1
     intro R
     have hz : (ns ++ flat b ns.length).length = ns.length + asz b := by rw [List.length_append, flat_len]
     rw [cutF, hof, Bool.not_true, cond_false, ih, Bool.not_true, cond_false, behind_L2 _ _ _ _ hfl (by omega) (flat_rows a (by omega)), hz, shN_flat, Nat.zero_add]
     have hz2 : (ns ++ flat b ns.length ++ flat a (ns.length + asz b)).length = ns.length + asz b + asz a := by rw [List.length_append, hz, flat_len]
     rw [hz2, cd_t (by simp only [decide_eq_true_eq]; omega), w64 (by omega), w64 (by omega), flat]
     simp only [List.append_assoc]
theorem bothS : ∀ n, LineS n ∧ OperS n
 | 0 => ⟨fun L i ns _ _ _ h => by omega, fun L i _ _ h => by omega⟩
 | n + 1 => ⟨lineS_step n (bothS n).1 (bothS n).2, operS_step n (bothS n).1⟩
theorem parseS (X : List Tok) (hX : X.length ≤ 10000) (R : List (List Cl) → Int → Option Res) : spec_Parse.g (X.map mkT) R = bif !toksOk X then R [] 1 else match ipF o1F o2F X with
 | none => R [] 8
 | some a => bif decide (60 < asz a) then R [] 6 else R (flat a 0) 0 := by
 simp only [spec_Parse.e, spec_Parse.b, toksS X (by omega)]
 cases toksOk X with
 | false => rfl
 | true =>
  simp only [Bool.not_true, cond_false]
  have h := (bothS fuel).1 X 0 [] hX (by omega) (by simp; omega) (by rw [fuel_eq]; omega)
  rw [List.drop_zero] at h
  rw [spec_l9Line.Ge]
  have hsp : ∀ a, ipF o1F o2F X = some a ↔ spF o1F o2F X = some (a, []) := fun a => ip_sp _ X a
  cases hs : spF o1F o2F X with
  | none =>
   rw [hs] at h
   obtain ⟨x, y, z, h⟩ := h
   refine (h _).trans ?_
   have : ipF o1F o2F X = none := by
    cases hi : ipF o1F o2F X with
    | none => rfl
    | some a => have := (hsp a).1 hi; rw [hs] at this; cases this
   rw [this]; rfl
  | some q =>
   obtain ⟨a, r⟩ := q
   rw [hs] at h
   refine (h _).trans ?_
   rw [Bool.not_true, cond_false, List.length_map]
   obtain ⟨s1, s2⟩ := sp_len hs
   by_cases hr : r = []
   ·subst hr
    rw [(hsp a).2 hs, List.length_nil, Nat.sub_zero, cd_f (by simp), List.nil_append, List.length_nil, flat_len]
    have : decide ((60 : Int) < (asz a : Int)) = decide (60 < asz a) := by rw [Bool.eq_iff_iff]; simp; omega
    rw [this]
   ·have hl : 0 < r.length := List.length_pos_iff.2 hr
    have : ipF o1F o2F X = none := by
     cases hi : ipF o1F o2F X with
     | none => rfl
     | some a' => have := (hsp a').1 hi; rw [hs] at this; cases this; exact absurd rfl hr
    rw [this, cd_t (by simp; omega)]
abbrev Nd := Int × Int × Int × Fn3 × List Int
def mkN (n : Nd) : List Cl := nodeC n.1 n.2.1 n.2.2.1 n.2.2.2.1.1 n.2.2.2.1.2.1 n.2.2.2.1.2.2 n.2.2.2.2
def ndsA : Ast → Nat → List Nd
 | .num xs, _ => [(1, 0, 0, (0, 0, 0), xs)]
 | .name v, _ => [(2, v, 0, (0, 0, 0), [])]
 | .set v b, n => ndsA b n ++ [(3, v, ((n + asz b : Nat) : Int) - 1, (0, 0, 0), [])]
 | .one f b, n => ndsA b n ++ [(4, 0, ((n + asz b : Nat) : Int) - 1, f, [])]
 | .two f a b, n => ndsA b n ++ ndsA a (n + asz b) ++ [(5, ((n + asz b + asz a : Nat) : Int) - 1, ((n + asz b : Nat) : Int) - 1, f, [])]
theorem nds_flat : ∀ (a : Ast) (n : Nat), (ndsA a n).map mkN = flat a n
 | .num _, _ => rfl
 | .name _, _ => rfl
 | .set v b, n => by simp only [ndsA, flat, List.map_append, nds_flat b n]; rfl
 | .one f b, n => by simp only [ndsA, flat, List.map_append, nds_flat b n]; rfl
 | .two f a b, n => by simp only [ndsA, flat, List.map_append, nds_flat b n, nds_flat a]; rfl
theorem nds_len (a : Ast) (n : Nat) : (ndsA a n).length = asz a := by rw [← flat_len a n, ← nds_flat, List.length_map]
def dN : Nd := (0, 0, 0, (0, 0, 0), [])
theorem nd_getD (T : List Nd) {i : Nat} (hi : i < T.length) : (T.map mkN).getD i [] = mkN (T.getD i dN) := by
 rw [List.getD_eq_getElem?_getD, List.getD_eq_getElem?_getD, List.getElem?_map, List.getElem?_eq_getElem hi]; rfl
theorem mkN_0 (n : Nd) : ((mkN n).getD 0 (.i 0)).toI = n.1 := rfl
theorem mkN_1 (n : Nd) : ((mkN n).getD 1 (.i 0)).toI = n.2.1 := rfl
theorem mkN_2 (n : Nd) : ((mkN n).getD 2 (.i 0)).toI = n.2.2.1 := rfl
theorem mkN_3 (n : Nd) : ((mkN n).getD 3 (.i 0)).toI = n.2.2.2.1.1 := rfl
theorem mkN_4 (n : Nd) : ((mkN n).getD 4 (.i 0)).toI = n.2.2.2.1.2.1 := rfl
theorem mkN_5 (n : Nd) : ((mkN n).getD 5 (.i 0)).toI = n.2.2.2.1.2.2 := rfl
theorem mkN_6 (n : Nd) : ((mkN n).getD 6 (.i 0)).toL = n.2.2.2.2 := rfl
def NumB (T : List Nd) : Prop := ∀ n ∈ T, n.2.2.2.2.length ≤ 1000000
theorem NumB.at {T : List Nd} (h : NumB T) {i : Nat} (hi : i < T.length) : (T.getD i dN).2.2.2.2.length ≤ 1000000 := by
 rw [List.getD_eq_getElem?_getD, List.getElem?_eq_getElem hi]; exact h _ (List.getElem_mem hi)
theorem eqIntS (a : List Int) (h : a.length ≤ 9223372036854775807) (R : Bool → Option Res) : laws_eqIntS.g a a R = R true := by
 simp only [laws_eqIntS.e, laws_eqIntS.b, bne_self_eq_false, cond_false]
 refine up0 (N := a.length) (P := fun n i => laws_eqIntS.l0 a a (R true) R n (i : Int) = R true) (by omega) ?_ ?_ 0 (by omega)
 ·intro n; simp only [laws_eqIntS.l0, laws_eqIntS.l0s, ixe, cond_false]
 ·intro n i hi ih
  simp only [laws_eqIntS.l0, laws_eqIntS.l0s, ixl hi, ix0, Bool.and_self, cond_true, bne_self_eq_false, cond_false, ixw (by omega : i < 9223372036854775807)]
  exact ih
theorem markIntS (y : Int) (a : List Int) (hy : 0 ≤ y ∧ y ≤ 4611686018427387904) (h : a.length ≤ 4611686018427387903) (R : Int → List Int → Option Res) : laws_markIntS.g y a R = R (y + a.length) (cnt (fun x => x) y a.length) := by
 simp only [laws_markIntS.e, laws_markIntS.b]
 have := up0 (N := a.length) (P := fun n i => ∀ l : List Int, l.length = a.length → (∀ j, j < i → l[j]? = (cnt (fun x => x) y a.length)[j]?) → laws_markIntS.l0 R n (y + (i : Int)) (i : Int) l = R (y + a.length) (cnt (fun x => x) y a.length)) (by omega) ?_ ?_ 0 (by omega) a rfl (fun j hj => by omega)
 ·simpa using this
 ·intro n l hl hp
  have e : decide ((a.length : Int) < (l.length : Int)) = false := by simp; omega
  simp only [laws_markIntS.l0, laws_markIntS.l0s, e, cond_false]
  rw [list_eq (a := l) (by rw [hl, cnt_length]) (fun j hj => hp j (by omega))]
 ·intro n i hi ih l hl hp
  have hi2 : decide ((i : Int) < (l.length : Int)) = true := by simp; omega
  have hw : IntKind.i64.wrap (y + (i : Int) + 1) = y + ((i + 1 : Nat) : Int) := by rw [w64 (by omega)]; omega
  simp only [laws_markIntS.l0, laws_markIntS.l0s, ix0, hi2, Bool.and_self, cond_true, ixw (by omega : i < 9223372036854775807), Int.toNat_natCast, hw]
  exact ih _ (by simp [hl]) (set_pre (by rw [hl, cnt_length]) (by rw [cnt_length]; exact hi) (cnt_get _ _ _ _ hi) hp)
theorem heldIntS (y : Int) (m : Nat) (hy : 0 ≤ y ∧ y ≤ 4611686018427387904) (h : m ≤ 4611686018427387903) (R : Int → Option Res) : laws_heldIntS.g (cnt (fun x => x) y m) y R = R (y + m) := by
 simp only [laws_heldIntS.e, laws_heldIntS.b]
 have := up0 (N := m) (P := fun n i => laws_heldIntS.l0 (cnt (fun x => x) y m) R R n (y + (i : Int)) (i : Int) = R (y + m)) (by omega) ?_ ?_ 0 (by omega)
 ·simpa using this
 ·intro n
  simp only [laws_heldIntS.l0, laws_heldIntS.l0s, cnt_length, ixe, cond_false]
 ·intro n i hi ih
  have hw : IntKind.i64.wrap (y + (i : Int) + 1) = y + ((i + 1 : Nat) : Int) := by rw [w64 (by omega)]; omega
  simp only [laws_heldIntS.l0, laws_heldIntS.l0s, cnt_length, ixl hi, ix0, Bool.and_self, cond_true, ixw (by omega : i < 9223372036854775807), Int.toNat_natCast, hw, getD_of (cnt_get (fun x => x) m y i hi), bne_self_eq_false, cond_false]
  exact ih
theorem map_set {α β : Type} (f : α → β) (L : List α) (i : Nat) (x : α) : (L.map f).set i (f x) = (L.set i x).map f := List.map_set.symm
theorem getD_set {α : Type} (L : List α) {i : Nat} (x d : α) (h : i < L.length) : (L.set i x).getD i d = x := by
 rw [List.getD_eq_getElem?_getD, List.getElem?_set_self h]; rfl
abbrev Ins : Type := Int × Int × (Int × Int × Int) × List Int
def dX : Ins := (0, 0, (0, 0, 0), [])
/-- so many numbers at most -/
def NumsX (M : Nat) (L : List Ins) : Prop := ∀ x ∈ L, x.2.2.2.length ≤ M
theorem NumsX.at {M : Nat} {L : List Ins} (h : NumsX M L) {i : Nat} (hi : i < L.length) : (L.getD i dX).2.2.2.length ≤ M := by
 rw [List.getD_eq_getElem?_getD, List.getElem?_eq_getElem hi]; exact h _ (List.getElem_mem hi)
theorem getN {L : List Nd} {i : Nat} (h : i < L.length) : (L.map mkN).getD i [] = mkN (L.getD i dN) := nd_getD L h
theorem spN0 (c : Nd) (x : Int) : splice (mkN c) 0 [.i x] = mkN (x, c.2) := rfl
theorem spN1 (c : Nd) (x : Int) : splice (mkN c) 1 [.i x] = mkN (c.1, x, c.2.2) := rfl
theorem spN2 (c : Nd) (x : Int) : splice (mkN c) 2 [.i x] = mkN (c.1, c.2.1, x, c.2.2.2) := rfl
theorem spN3 (c : Nd) (x : Int) : splice (mkN c) 3 [.i x] = mkN (c.1, c.2.1, c.2.2.1, (x, c.2.2.2.1.2), c.2.2.2.2) := rfl
theorem spN4 (c : Nd) (x : Int) : splice (mkN c) 4 [.i x] = mkN (c.1, c.2.1, c.2.2.1, (c.2.2.2.1.1, x, c.2.2.2.1.2.2), c.2.2.2.2) := rfl
theorem spN5 (c : Nd) (x : Int) : splice (mkN c) 5 [.i x] = mkN (c.1, c.2.1, c.2.2.1, (c.2.2.2.1.1, c.2.2.2.1.2.1, x), c.2.2.2.2) := rfl
theorem spN6 (c : Nd) (x : List Int) : splice (mkN c) 6 [.l x] = mkN (c.1, c.2.1, c.2.2.1, c.2.2.2.1, x) := rfl
def szN : List Nd → Nat
 | [] => 0
 | x :: L => x.2.2.2.2.length + szN L
theorem szN_drop (L : List Nd) {i : Nat} (hi : i < L.length) : szN (L.drop i) = (L.getD i dN).2.2.2.2.length + szN (L.drop (i + 1)) := by
 rw [drop_cons dN hi, szN]
theorem szN_le : ∀ (L : List Nd) (M : Nat), szN L ≤ M → ∀ x ∈ L, x.2.2.2.2.length ≤ M
 | [], _, _, x, h => by cases h
 | y :: L, M, hM, x, h => by
  rw [szN] at hM
  rcases List.mem_cons.1 h with rfl | h
  ·omega
  ·exact szN_le L M (by omega) x h
theorem eqExprS (L : List Nd) (h : L.length ≤ 1048576) (hn : ∀ x ∈ L, x.2.2.2.2.length ≤ 1048576) (R : Bool → Option Res) : laws_eqExprS.g (L.map mkN) (L.map mkN) R = R true := by
 simp only [laws_eqExprS.e, laws_eqExprS.b, bne_self_eq_false, cond_false, List.length_map]
 refine up0 (N := L.length) (P := fun n i => laws_eqExprS.l0 (L.map mkN) (L.map mkN) (R true) R n (i : Int) = R true) (by omega) ?_ ?_ 0 (by omega)
 ·intro n; simp only [laws_eqExprS.l0, laws_eqExprS.l0s, List.length_map, ixe, cond_false]
 ·intro n i hi ih
  have hx : (L.getD i dN).2.2.2.2.length ≤ 1048576 := by
   rw [List.getD_eq_getElem?_getD, List.getElem?_eq_getElem hi]; exact hn _ (List.getElem_mem hi)
  simp only [laws_eqExprS.l0, laws_eqExprS.l0s, laws_eqExpr.e, laws_eqExpr.b, laws_eqFun.e, laws_eqFun.b, List.length_map, ixl hi, ix0, Bool.and_self, cond_true, bne_self_eq_false, cond_false, Bool.not_true, Int.toNat_natCast, getN hi, mkN_0, mkN_1, mkN_2, mkN_3, mkN_4, mkN_5, mkN_6, eqIntS _ (by omega : (L.getD i dN).2.2.2.2.length ≤ 9223372036854775807), ixw (by omega : i < 9223372036854775807)]
  exact ih
def mkdN (z : Int) (n : Nat) : Nd := (z, z + 1, z + 2, (z + 3, z + 4, z + 5), cnt (fun x => x) (z + 6) n)
def cntNs : Int → List Nd → List Nd
 | _, [] => []
 | y, x :: L => mkdN y x.2.2.2.2.length :: cntNs (y + 6 + x.2.2.2.2.length) L
theorem cntNs_length : ∀ (L : List Nd) (y : Int), (cntNs y L).length = L.length
 | [], _ => rfl
 | x :: L, y => by rw [cntNs, List.length_cons, cntNs_length, List.length_cons]
theorem szN_drop_le : ∀ (L : List Nd) (i : Nat), szN (L.drop i) ≤ szN L
 | [], i => by rw [List.drop_nil]; exact Nat.le_refl _
 | x :: L, 0 => Nat.le_refl _
 | x :: L, i + 1 => by rw [List.drop_succ_cons, szN]; exact Nat.le_trans (szN_drop_le L i) (Nat.le_add_left _ _)
def zNt (y : Int) (L : List Nd) (i : Nat) : Int := y + 6 * i + ((szN L - szN (L.drop i) : Nat) : Int)
theorem zNt_0 (y : Int) (L : List Nd) : zNt y L 0 = y := by simp [zNt]
theorem zNt_end (y : Int) (L : List Nd) : zNt y L L.length = y + 6 * L.length + szN L := by simp [zNt, szN]
theorem zNt_succ (y : Int) (L : List Nd) {i : Nat} (hi : i < L.length) : zNt y L (i + 1) = zNt y L i + 6 + (L.getD i dN).2.2.2.2.length := by
 have h1 := szN_drop L hi
 have h2 := szN_drop_le L i
 unfold zNt; omega
theorem zNt_cons (y : Int) (x : Nd) (L : List Nd) (i : Nat) : zNt y (x :: L) (i + 1) = zNt (y + 6 + x.2.2.2.2.length) L i := by
 have h2 := szN_drop_le L i
 unfold zNt; rw [List.drop_succ_cons, szN]; omega
theorem cntNs_get : ∀ (L : List Nd) (y : Int) (i : Nat), i < L.length → (cntNs y L)[i]? = some (mkdN (zNt y L i) (L.getD i dN).2.2.2.2.length)
 | [], _, _, h => by cases h
 | x :: L, y, 0, _ => by rw [cntNs, zNt_0]; rfl
 | x :: L, y, i + 1, h => by
  rw [cntNs, List.getElem?_cons_succ, cntNs_get L _ i (by simp only [List.length_cons] at h; omega), zNt_cons]; rfl
theorem zNt_le (y : Int) (L : List Nd) (i : Nat) (hi : i ≤ L.length) : y ≤ zNt y L i ∧ zNt y L i ≤ y + 6 * L.length + szN L := by
 have h2 := szN_drop_le L i
 unfold zNt; omega
theorem markExprF (y : Int) (L : List Nd) (hy : 0 ≤ y ∧ y ≤ 1152921504606846976) (h : L.length ≤ 1048576) (hz : szN L ≤ 1048576) (R : Int → List (List Cl) → Option Res) : laws_markExprS.g y (L.map mkN) R = R (y + 6 * L.length + szN L) ((cntNs y L).map mkN) := by
 simp only [laws_markExprS.e, laws_markExprS.b]
 have := up0 (N := L.length) (P := fun n i => ∀ M : List Nd, M.length = L.length → (∀ j, j < i → M[j]? = (cntNs y L)[j]?) → M.drop i = L.drop i → laws_markExprS.l0 (fun y8 y9 => R y8 y9) n (zNt y L i) (i : Int) (M.map mkN) = R (y + 6 * L.length + szN L) ((cntNs y L).map mkN)) (by omega) ?_ ?_ 0 (by omega) L rfl (fun j hj => by omega) rfl
 ·rw [zNt_0] at this; exact this
 ·intro n M hM hp _
  have e : decide ((L.length : Int) < ((M.map mkN).length : Int)) = false := by simp; omega
  simp only [laws_markExprS.l0, laws_markExprS.l0s, e, cond_false]
  rw [list_eq (a := M) (by rw [hM, cntNs_length]) (fun j hj => hp j (by omega)), zNt_end]
 ·intro n i hi ih M hM hp hd
  have hiM : i < M.length := by omega
  have hb := zNt_le y L i (by omega)
  have hz1 := zNt_succ y L hi
  have hb1 := zNt_le y L (i + 1) hi
  have hnx : (M.getD i dN).2.2.2.2 = (L.getD i dN).2.2.2.2 := by
   have a := drop_cons dN hiM
   have b := drop_cons dN hi
   rw [hd, b] at a
   rw [(List.cons.inj a).1]
  have hd' : M.drop (i + 1) = L.drop (i + 1) := by
   have a := drop_cons dN hiM
   have b := drop_cons dN hi
   rw [hd, b] at a
   exact (List.cons.inj a).2.symm
  have step := ih (M.set i (mkdN (zNt y L i) (L.getD i dN).2.2.2.2.length)) (by simp [hM]) (set_pre (by rw [hM, cntNs_length]) (by rw [cntNs_length]; exact hi) (cntNs_get L y i hi) hp) (by rw [List.drop_set_of_lt (by omega)]; exact hd')
  rw [hz1] at step
  generalize zNt y L i = z at *
  have w1 : IntKind.i64.wrap (z + 1) = z + 1 := w64 (by omega)
  have w2 : IntKind.i64.wrap (z + 1 + 1) = z + 2 := by rw [w64 (by omega)]; omega
  have w3 : IntKind.i64.wrap (z + 2 + 1) = z + 3 := by rw [w64 (by omega)]; omega
  have w4 : IntKind.i64.wrap (z + 3 + 1) = z + 4 := by rw [w64 (by omega)]; omega
  have w5 : IntKind.i64.wrap (z + 4 + 1) = z + 5 := by rw [w64 (by omega)]; omega
  have w6 : IntKind.i64.wrap (z + 5 + 1) = z + 6 := by rw [w64 (by omega)]; omega
  have hdd : decide ((i : Int) < ((M.map mkN).length : Int)) = true := by simp; omega
  have hb5 : 0 ≤ z + 6 ∧ z + 6 ≤ 4611686018427387904 := by omega
  have hbx : (L.getD i dN).2.2.2.2.length ≤ 4611686018427387903 := by omega
  have sx : ∀ (Q : List Nd) (x : Nd), Q.length = M.length → ((Q.map mkN).set i (mkN x)).getD i [] = mkN x := fun Q x hQ => getD_set _ _ _ (by simp; omega)
  simp only [laws_markExprS.l0, laws_markExprS.l0s, ix0, Int.toNat_natCast, w1, w2, w3, w4, w5, w6, getN hiM, spN0, List.set_set, List.length_set, decide_true, sx M _ rfl, spN1, spN2, spN3, spN4, spN5, spN6, mkN_6, hdd, Bool.and_self, cond_true, hnx, ixw (by omega : i < 9223372036854775807), markIntS _ _ hb5 hbx]
  simp only [map_set]
  exact step
theorem heldExprS (y : Int) (L : List Nd) (hy : 0 ≤ y ∧ y ≤ 1152921504606846976) (h : L.length ≤ 1048576) (hz : szN L ≤ 1048576) (R : Int → Option Res) : laws_heldExprS.g ((cntNs y L).map mkN) y R = R (y + 6 * L.length + szN L) := by
 simp only [laws_heldExprS.e, laws_heldExprS.b]
 have := up0 (N := L.length) (P := fun n i => laws_heldExprS.l0 ((cntNs y L).map mkN) (fun y7 => R y7) R n (zNt y L i) (i : Int) = R (y + 6 * L.length + szN L)) (by omega) ?_ ?_ 0 (by omega)
 ·rw [zNt_0] at this; exact this
 ·intro n; simp only [laws_heldExprS.l0, laws_heldExprS.l0s, List.length_map, cntNs_length, ixe, cond_false, zNt_end]
 ·intro n i hi ih
  have hb := zNt_le y L i (by omega)
  have hz1 := zNt_succ y L hi
  have hb1 := zNt_le y L (i + 1) hi
  have hc : i < (cntNs y L).length := by rw [cntNs_length]; exact hi
  have hg := getD_of (d := dN) (cntNs_get L y i hi)
  rw [hz1] at ih
  generalize zNt y L i = z at *
  have w1 : IntKind.i64.wrap (z + 1) = z + 1 := w64 (by omega)
  have w2 : IntKind.i64.wrap (z + 1 + 1) = z + 2 := by rw [w64 (by omega)]; omega
  have w3 : IntKind.i64.wrap (z + 2 + 1) = z + 3 := by rw [w64 (by omega)]; omega
  have w4 : IntKind.i64.wrap (z + 3 + 1) = z + 4 := by rw [w64 (by omega)]; omega
  have w5 : IntKind.i64.wrap (z + 4 + 1) = z + 5 := by rw [w64 (by omega)]; omega
  have w6 : IntKind.i64.wrap (z + 5 + 1) = z + 6 := by rw [w64 (by omega)]; omega
  have hh := heldIntS (z + 6) (L.getD i dN).2.2.2.2.length (by omega) (by omega)
  have e1 : decide (z + 6 + ((L.getD i dN).2.2.2.2.length : Int) < 0) = false := by simp; omega
  simp only [laws_heldExprS.l0, laws_heldExprS.l0s, List.length_map, cntNs_length, ixl hi, ix0, Bool.and_self, cond_true, Int.toNat_natCast, getN hc, hg, mkN_0, mkN_1, mkN_2, mkN_3, mkN_4, mkN_5, mkN_6, mkdN, w1, w2, w3, w4, w5, w6, bne_self_eq_false, cond_false, hh, e1, ixw (by omega : i < 9223372036854775807)]
  exact ih
def numB (M : Nat) : Ast → Prop
 | .num xs => xs.length ≤ M
 | .name _ => True
 | .set _ b => numB M b
 | .one _ b => numB M b
 | .two _ a b => numB M a ∧ numB M b
theorem numB_ip {o1 o2 : Fn3 → Bool} (M : Nat) : ∀ (n : Nat) (X : List Tok) (a : Ast), X.length ≤ M → ip o1 o2 n X = some a → numB M a
 | 0, _, _, _, h => by cases h
 | n + 1, X, a, hM, h => by
  have ih := numB_ip (o1 := o1) (o2 := o2) M n
  have hdr : ∀ m, (X.drop m).length ≤ M := fun m => by rw [List.length_drop]; omega
  unfold ip at h
  by_cases hX : X = []
  ·rw [if_pos hX] at h; cases h
  rw [if_neg hX] at h
  by_cases hs : kdT X 0 = 2 ∧ kdT X 1 = 6
  ·rw [if_pos hs] at h
   obtain ⟨b, hb, rfl⟩ := Option.map_eq_some_iff.1 h
   exact ih _ b (hdr 2) hb
  rw [if_neg hs] at h
  by_cases h3 : kdT X 0 = 3
  ·rw [if_pos h3] at h
   cases hf : fnT X with
   | none => rw [hf] at h; cases h
   | some p =>
    obtain ⟨f, m⟩ := p
    rw [hf] at h
    simp only at h
    cases ho : o1 f with
    | false => rw [ho] at h; cases h
    | true =>
     rw [ho, if_pos rfl] at h
     obtain ⟨b, hb, rfl⟩ := Option.map_eq_some_iff.1 h
     exact ih _ b (hdr m) hb
  rw [if_neg h3] at h
  cases hk : oeT X with
  | none => rw [hk] at h; cases h
  | some k =>
   rw [hk] at h
   simp only at h
   have left : ∀ a, leftI (ip o1 o2 n) X k = some a → numB M a := by
    intro a ha
    unfold leftI at ha
    by_cases h2 : kdT X 0 = 2
    ·rw [if_pos h2] at ha; cases ha; trivial
    rw [if_neg h2] at ha
    by_cases h1 : kdT X 0 = 1
    ·rw [if_pos h1] at ha; cases ha
     have := numsT_len (X.take k)
     rw [List.length_take] at this
     show (numsT (X.take k)).length ≤ M
     omega
    rw [if_neg h1] at ha
    exact ih _ a (by rw [List.length_drop, List.length_take]; omega) ha
   by_cases hkl : k = X.length
   ·rw [if_pos hkl] at h; exact left a h
   ·rw [if_neg hkl] at h
    cases hf : fnT (X.drop k) with
    | none => rw [hf] at h; cases h
    | some p =>
     obtain ⟨f, m⟩ := p
     rw [hf] at h
     simp only at h
     cases ho : o2 f with
     | false => rw [ho] at h; cases h
     | true =>
      rw [ho, if_pos rfl] at h
      obtain ⟨b, hb, h⟩ := Option.bind_eq_some_iff.1 h
      obtain ⟨a', ha, rfl⟩ := Option.map_eq_some_iff.1 h
      exact ⟨left _ ha, ih _ b (hdr _) hb⟩
theorem numB_rows (M : Nat) : ∀ (a : Ast) (n : Nat), numB M a → ∀ r ∈ flat a n, ((r.getD 6 (.i 0)).toL).length ≤ M
 | .num xs, n, h, r, hr => by rw [flat, List.mem_singleton] at hr; subst hr; exact h
 | .name v, n, h, r, hr => by rw [flat, List.mem_singleton] at hr; subst hr; exact Nat.zero_le _
 | .set v b, n, h, r, hr => by
  rw [flat, List.mem_append, List.mem_singleton] at hr
  rcases hr with hr | rfl
  ·exact numB_rows M b n h r hr
  ·exact Nat.zero_le _
 | .one f b, n, h, r, hr => by
  rw [flat, List.mem_append, List.mem_singleton] at hr
  rcases hr with hr | rfl
  ·exact numB_rows M b n h r hr
  ·exact Nat.zero_le _
 | .two f a b, n, h, r, hr => by
  rw [flat, List.mem_append, List.mem_append, List.mem_singleton] at hr
  rcases hr with (hr | hr) | rfl
  ·exact numB_rows M b n h.2 r hr
  ·exact numB_rows M a _ h.1 r hr
  ·exact Nat.zero_le _
theorem szTokenS (a : List (List Cl)) (h : a.length ≤ maxLen) : ∃ y : Int, (0 ≤ y → a.length ≤ 1048576) ∧ ∀ R, laws_szTokenS.g a 1048576 R = R y := by
 have hm : maxLen = 9223372036854775807 := by decide
 simp only [laws_szTokenS.e, laws_szTokenS.b]
 rw [w64 (by omega)]
 by_cases h1 : (1048576 : Int) - (a.length : Int) < 0
 ·exact ⟨-1, by omega, fun R => by rw [cd_t (by simpa using h1)]⟩
 ·exact ⟨1048576 - a.length, by omega, fun R => by rw [cd_f (by simpa using h1)]⟩
theorem toTokenS (a : List (List Cl)) (h : a.length ≤ 1048576) (R : List (List Cl) → Option Res) : laws_toTokenS.g a R = R ((a.map unT).map mkT) := by
 have e1 : decide (0 ≤ (a.length : Int)) = true := by simp
 have e2 : decide ((a.length : Int) * 16 ≤ 140737488355328) = true := by simp; omega
 simp only [laws_toTokenS.e, laws_toTokenS.b, e1, e2, decide_true, Bool.and_self, cond_true]
 refine up0 (N := a.length) (P := fun n i => ∀ l : List (List Cl), l.length = a.length → (∀ j, j < i → l[j]? = ((a.map unT).map mkT)[j]?) → laws_toTokenS.l0 a R n (i : Int) l = R ((a.map unT).map mkT)) (by omega) ?_ ?_ 0 (by omega) _ (by simp) (fun j hj => by omega)
 ·intro n l hl hp
  simp only [laws_toTokenS.l0, laws_toTokenS.l0s, ixe, cond_false]
  rw [list_eq (by simpa using hl) (fun j hj => hp j (by omega))]
 ·intro n i hi ih l hl hp
  have hi2 : decide ((i : Int) < (l.length : Int)) = true := by simp; omega
  simp only [laws_toTokenS.l0, laws_toTokenS.l0s, laws_toToken.e, laws_toToken.b, ixl hi, ix0, hi2, Bool.and_self, cond_true, ixw (by omega : i < 9223372036854775807), Int.toNat_natCast]
  refine ih _ (by simp [hl]) (set_pre (a := (a.map unT).map mkT) (by simpa using hl) (by simpa using hi) ?_ hp)
  rw [List.getElem?_map, List.getElem?_map, getD_lt [] hi]; rfl
theorem eqTokenS (X : List Tok) (h : X.length ≤ 1048576) (R : Bool → Option Res) : laws_eqTokenS.g (X.map mkT) (X.map mkT) R = R true := by
 simp only [laws_eqTokenS.e, laws_eqTokenS.b, bne_self_eq_false, cond_false]
 refine up0 (N := X.length) (P := fun n i => laws_eqTokenS.l0 (X.map mkT) (X.map mkT) (R true) R n (i : Int) = R true) (by omega) ?_ ?_ 0 (by omega)
 ·intro n; simp only [laws_eqTokenS.l0, laws_eqTokenS.l0s, List.length_map, ixe, cond_false]
 ·intro n i hi ih
  simp only [laws_eqTokenS.l0, laws_eqTokenS.l0s, List.length_map, ixl hi, ix0, Bool.and_self, cond_true, laws_eqToken.e, laws_eqToken.b, bne_self_eq_false, cond_false, Bool.not_true, ixw (by omega : i < 9223372036854775807)]
  exact ih
theorem spT0 (c : Tok) (x : Int) : splice (mkT c) 0 [.i x] = mkT (x, c.2) := rfl
theorem spT1 (c : Tok) (x : Int) : splice (mkT c) 1 [.i x] = mkT (c.1, x) := rfl
theorem markTokenS (y : Int) (L : List Tok) (hy : 0 ≤ y ∧ y ≤ 1152921504606846976) (h : L.length ≤ 1048576) : ∃ Z : List (List Cl), ∀ R : Int → List (List Cl) → Option Res, laws_markTokenS.g y (L.map mkT) R = R (y + 2 * L.length) Z := by
 simp only [laws_markTokenS.e, laws_markTokenS.b]
 have := up0 (N := L.length) (P := fun n i => ∀ M : List Tok, M.length = L.length → ∃ Z : List (List Cl), ∀ R : Int → List (List Cl) → Option Res, laws_markTokenS.l0 (fun y6 y7 => R y6 y7) n (y + 2 * (i : Int)) (i : Int) (M.map mkT) = R (y + 2 * L.length) Z) (by omega) ?_ ?_ 0 (by omega) L rfl
 ·obtain ⟨Z, hZ⟩ := this
  exact ⟨Z, fun R => by have := hZ R; simp only [Int.natCast_zero, Int.mul_zero, Int.add_zero] at this; exact this⟩
 ·intro n M hM
  have e : decide ((L.length : Int) < ((M.map mkT).length : Int)) = false := by simp; omega
  exact ⟨M.map mkT, fun R => by simp only [laws_markTokenS.l0, laws_markTokenS.l0s, e, cond_false]⟩
 ·intro n i hi ih M hM
  have hiM : i < M.length := by omega
  have hdd : decide ((i : Int) < ((M.map mkT).length : Int)) = true := by simp; omega
  have w1 : IntKind.i64.wrap (y + 2 * (i : Int) + 1) = y + 2 * (i : Int) + 1 := w64 (by omega)
  have w2 : IntKind.i64.wrap (y + 2 * (i : Int) + 1 + 1) = y + 2 * ((i + 1 : Nat) : Int) := by rw [w64 (by omega)]; omega
  obtain ⟨Z, hZ⟩ := ih (M.set i (y + 2 * (i : Int), y + 2 * (i : Int) + 1)) (by simp [hM])
  refine ⟨Z, fun R => ?_⟩
  have sx : ∀ x : Tok, ((M.map mkT).set i (mkT x)).getD i [] = mkT x := fun x => getD_set _ _ _ (by simp; omega)
  simp only [laws_markTokenS.l0, laws_markTokenS.l0s, ix0, Int.toNat_natCast, w1, w2, tk_getD M hiM, spT0, List.set_set, List.length_set, sx, spT1, hdd, Bool.and_self, cond_true, ixw (by omega : i < 9223372036854775807)]
  simp only [map_set] at hZ ⊢
  exact hZ R
theorem szN_nds (M : Nat) : ∀ T : List Nd, (∀ x ∈ T, x.2.2.2.2.length ≤ M) → szN T ≤ M * T.length
 | [], _ => Nat.zero_le _
 | x :: T, h => by
  have h1 := h x (List.mem_cons_self ..)
  have h2 := szN_nds M T fun y hy => h y (List.mem_cons_of_mem _ hy)
  rw [szN, List.length_cons, Nat.mul_add, Nat.mul_one]
  omega
/-- both read tokens as the same tree -/
theorem parseBoth (X : List Tok) (hX : X.length ≤ 1048576) : ∃ (L : List Nd) (e : Int), L.length ≤ 60 ∧ szN L ≤ 1048576 ∧ (∀ R, impl_Parse.g (X.map mkT) R = R (L.map mkN) e) ∧ ∀ R, spec_Parse.g (X.map mkT) R = R (L.map mkN) e := by
 cases ht : toksOk X with
 | false => exact ⟨[], 1, by decide, by decide, fun R => by simp only [impl_Parse.e, impl_Parse.b, toksI X hX, ht]; rfl, fun R => by simp only [spec_Parse.e, spec_Parse.b, toksS X hX, ht]; rfl⟩
 | true =>
  have hall : X.all tokOk = true ∧ X.length ≤ 300 := by simpa [toksOk] using ht
  simp only [parseI X (by omega), parseS X (by omega), ht, Bool.not_true, cond_false]
  cases hi : ipF o1F o2F X with
  | none => exact ⟨[], 8, by decide, by decide, fun R => rfl, fun R => rfl⟩
  | some t =>
   simp only
   by_cases h60 : 60 < asz t
   ·exact ⟨[], 6, by decide, by decide, fun R => by rw [cd_t (by simpa using h60)]; rfl, fun R => by rw [cd_t (by simpa using h60)]; rfl⟩
   have hb60 : decide (60 < asz t) = false := by simpa using h60
   have hl := nds_len t 0
   have hn := numB_ip 300 _ X t (by omega) hi
   refine ⟨ndsA t 0, 0, by omega, ?_, fun R => ?_, fun R => ?_⟩
   ·have := szN_nds 300 (ndsA t 0) fun x hx => by
     have := numB_rows 300 t 0 hn (mkN x) (by rw [← nds_flat]; exact List.mem_map_of_mem hx)
     exact this
    omega
   ·rw [hb60, cond_false, nds_flat]
   ·rw [hb60, cond_false, nds_flat]
theorem lawFnExactParse (a : List (List Cl)) (ha : wfQ [.int .i64, .int .i64] (.cells a)) (R : Bool → Option Res) : laws_FnExactParse.g a R = R true := by
 simp only [laws_FnExactParse.e, laws_FnExactParse.b]
 obtain ⟨y, y1, y2⟩ := szTokenS a ha.1
 simp only [y2]
 by_cases h : y < 0
 ·rw [cd_t (by simpa using h)]
 rw [cd_f (by simpa using h)]
 have hl := y1 (by omega)
 have hX : (a.map unT).length ≤ 1048576 := by rw [List.length_map]; exact hl
 obtain ⟨L, e, h1, h2, h3, h4⟩ := parseBoth (a.map unT) hX
 have hn := szN_le L _ h2
 simp only [toTokenS a hl, h3, h4, laws_eqTree.e, laws_eqTree.b, eqExprS L (by omega) hn, Bool.not_true, cond_false, bne_self_eq_false, eqTokenS _ hX, laws_markTree.e, laws_markTree.b, laws_heldTree.e, laws_heldTree.b]
 obtain ⟨Z, hZ⟩ := markTokenS 1 (a.map unT) (by omega) hX
 have e1 : decide ((1 : Int) + 2 * ((a.map unT).length : Int) < 0) = false := by simp; omega
 have e2 : decide ((1 : Int) + 6 * (L.length : Int) + (szN L : Int) < 0) = false := by simp; omega
 simp only [hZ, e1, cond_false, markExprF 1 L (by omega) (by omega) h2, heldExprS 1 L (by omega) (by omega) h2, e2, bne_self_eq_false]
end Go.Tv.F
