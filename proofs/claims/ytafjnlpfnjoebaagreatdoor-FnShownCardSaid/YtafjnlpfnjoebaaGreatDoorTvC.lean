/- An evaluator over abstract values for the model's code, and that what it says is what the machine does (part 3). It holds without condition. -/
import Derived.Test.YtafjnlpfnjoebaaGreatDoorTvB
import Derived.Deep.Slices
import Derived.Carry
import Derived.ChangeArms
import Derived.ChangeOld
import Derived.RowKit
import Derived.IntWalk
import Derived.KernelRfl
import Derived.Lib.LaidTab
import Derived.Lib.ItoaNum
import Derived.Lib.Join
import Derived.Lib.Repeat
import Derived.Below
import Derived.Sort.Grow
import Derived.Deep.Draws
set_option linter.unusedVariables false
set_option linter.unusedSectionVars false
set_option linter.unusedSimpArgs false
set_option linter.unnecessarySimpa false
set_option maxRecDepth 100000
set_option autoImplicit false
namespace Go.Tv
open Go
variable [Env]
variable {P : Program} {G G' : Gh} {X : Ctx} {F U : Nat → Prop} {kl : Bool} {o : Oper} {st : St}
/-- what is known of a region whose order is drawn -/
structure Drawn (P : Program) (i : Nat) (ops : Array Oper) (ws : List (List Nat)) (D : List (Oper × DI)) (st : St) : Prop where
 map : D.map (·.1) = ops.toList
 wsok : WaitsOk ops ws
 pairT : allPairs (fun _ p q => apartT ops p q) ws 0 ops.toList = true
 pairF : allPairs (fun _ a b => apartF a b) ws 0 (D.map footOf) = true
 item : ∀ (m : Nat) (p : Oper × DI), D[m]? = some p → Item P i ops ws m p (stS (fun _ => true) 0 (D.take m) st)
 free : ∀ n, st.Names n → inSite i 0 128 n = false
 small : ops.size ≤ 128
def listedS (listed : Array Bool) (k : Nat) : Bool := listed.getD k false
theorem listed_set {listed : Array Bool} {i : Nat} (hi : i < listed.size) (m : Nat) : listedS (listed.setIfInBounds i true) m = if m = i then true else listedS listed m := by
 simp only [listedS, Array.getD_eq_getD_getElem?, Array.getElem?_setIfInBounds]
 by_cases h : i = m
 ·subst h; simp [hi]
 ·rw [if_neg h, if_neg (fun e => h e.symm)]
theorem ready_iff {ops : Array Oper} {listed : Array Bool} (hs : listed.size = ops.size) {i : Nat} : i ∈ Region.ready .any ops listed ↔ ∃ o, ops[i]? = some o ∧ listedS listed i = false ∧ ∀ e ∈ o.after.toList, binds e = true → listedS listed e.on = true := by
 have hb : ∀ e : Edge, Region.binds .any e = binds e := by intro e; unfold Region.binds binds; cases e.ground <;> rfl
 simp only [Region.ready, List.mem_filter, List.mem_range, Bool.and_eq_true, Bool.not_eq_true']
 constructor
 ·rintro ⟨hlt, h1, h2⟩
  rw [Array.getElem?_eq_getElem hlt] at h2
  simp only [Option.map_some, Option.getD_some] at h2
  refine ⟨ops[i], Array.getElem?_eq_getElem hlt, ?_, fun e he hbe => ?_⟩
  ·simp only [listedS, Array.getD_eq_getD_getElem?] at h1 ⊢
   rw [Array.getElem?_eq_getElem (by omega)] at h1 ⊢
   exact h1
  ·rw [← Array.all_toList] at h2
   have := List.all_eq_true.1 h2 e he
   rw [hb, hbe] at this
   simp only [Bool.not_true, Bool.false_or] at this
   exact this
 ·rintro ⟨o, ho, h1, h2⟩
  have hlt := (Array.getElem?_eq_some_iff.1 ho).1
  refine ⟨hlt, ?_, ?_⟩
  ·simp only [listedS, Array.getD_eq_getD_getElem?] at h1 ⊢
   rw [Array.getElem?_eq_getElem (by omega)] at h1 ⊢
   exact h1
  ·rw [ho]
   simp only [Option.map_some, Option.getD_some]
   rw [← Array.all_toList]
   refine List.all_eq_true.2 fun e he => ?_
   rw [hb]
   cases hbe : binds e with
   | false => rfl
   | true => simp only [Bool.not_true, Bool.false_or]; exact h2 e he hbe
theorem countP_set {p p' : Nat → Bool} {i : Nat} : ∀ {n : Nat}, i < n → p i = false → (∀ m, p' m = if m = i then true else p m) → (List.range n).countP p' = (List.range n).countP p + 1
 | 0, h, _, _ => by omega
 | n + 1, h, hp, hp' => by
  rw [List.range_succ, List.countP_append, List.countP_append]
  by_cases hn : i = n
  ·subst hn
   have e : (List.range i).countP p' = (List.range i).countP p := by
    apply List.countP_congr
    intro m hm
    have := List.mem_range.1 hm
    rw [hp', if_neg (by omega)]
   have h1 : p' i = true := by rw [hp']; simp
   simp [e, h1, hp]
  ·rw [countP_set (by omega) hp hp']
   have : p' n = p n := by rw [hp', if_neg (fun e => hn e.symm)]
   simp [this]; omega
theorem drawn_sound {i : Nat} {ops : Array Oper} {ws : List (List Nat)} {D : List (Oper × DI)} (hD : Drawn P i ops ws D st) {Q : Exit → Act → World → Prop} {G0 : Gh} (hQ : Post X G0 (stS (fun _ => true) 0 D st) (Q .normal)) :
 ∀ (fuel : Nat) (listed : Array Bool), listed.size = ops.size → ops.size ≤ fuel + (List.range ops.size).countP (listedS listed) → (∀ k, listedS listed k = true → ∀ p ∈ ws.getD k [], listedS listed p = true) →
 ∀ G a, Stp X G0 G → Ok G (stS (listedS listed) 0 D st) a → a.defers = [] → wpAny P .any ops Q fuel listed a G.w := by
 have hDl : D.length = ops.size := by have := congrArg List.length hD.map; simpa using this
 have hDo : ∀ (m : Nat) (p : Oper × DI), D[m]? = some p → ops[m]? = some p.1 := fun m p h => by
  have : (D.map (·.1))[m]? = some p.1 := by rw [List.getElem?_map, h]; rfl
  rw [hD.map] at this
  simpa using this
 have hkill : NoKill D := fun p hp => by
  obtain ⟨m, hm, rfl⟩ := List.mem_iff_getElem.1 hp
  exact (hD.item m _ (List.getElem?_eq_getElem hm)).kill
 -- all are done
 have hfin : ∀ (listed : Array Bool), listed.size = ops.size → (∀ k, k < ops.size → listedS listed k = true) → ∀ G a, Stp X G0 G → Ok G (stS (listedS listed) 0 D st) a → a.defers = [] → Q .normal a G.w := by
  intro listed hs hall G a hst hG hd
  refine hQ G a hst (hG.eqv ?_) hd
  have hS : ∀ {α : Type} {get : St → α} {W : Oper × DI → Prop}, Reg st.tmps.length get W → get (stS (listedS listed) 0 D st) = get (stS (fun _ => true) 0 D st) := fun hr =>
   hr.same hkill (fun m p hm _ => by rw [Nat.zero_add]; exact hall m (by have := (List.getElem?_eq_some_iff.1 hm).1; omega)) rfl rfl rfl
  exact ⟨by rw [stS_len, stS_len], fun t => hS (reg_slot _ t), fun r => hS (reg_row _ r), fun b => hS (reg_box _ b)⟩
 have hready : ∀ (listed : Array Bool), listed.size = ops.size → Region.ready .any ops listed = [] → ∀ k, k < ops.size → listedS listed k = true := by
  intro listed hs he k
  induction k using Nat.strongRecOn with
  | ind k ih =>
   intro hk
   cases hl : listedS listed k with
   | true => rfl
   | false =>
    exfalso
    have : k ∈ Region.ready .any ops listed := (ready_iff hs).2 ⟨ops[k], Array.getElem?_eq_getElem hk, hl, fun e hem hbe => by
     have := hD.wsok.back k _ (Array.getElem?_eq_getElem hk) e hem hbe
     exact ih e.on this (by omega)⟩
    rw [he] at this; cases this
 intro fuel
 induction fuel with
 | zero =>
  intro listed hs hc hcl G a hst hG hd
  have hall : ∀ k, k < ops.size → listedS listed k = true := by
   have h1 : (List.range ops.size).countP (listedS listed) ≤ (List.range ops.size).length := List.countP_le_length
   rw [List.length_range] at h1
   have h2 : (List.range ops.size).countP (listedS listed) = (List.range ops.size).length := by rw [List.length_range]; omega
   intro k hk
   exact List.countP_eq_length.1 h2 k (List.mem_range.2 hk)
  refine ⟨?_, hfin listed hs hall G a hst hG hd⟩
  cases hr : Region.ready .any ops listed with
  | nil => rfl
  | cons x l =>
   exfalso
   have : x ∈ Region.ready .any ops listed := by rw [hr]; exact List.mem_cons_self ..
   obtain ⟨o, ho, h1, _⟩ := (ready_iff hs).1 this
   rw [hall x (Array.getElem?_eq_some_iff.1 ho).1] at h1; cases h1
 | succ fuel ih =>
  intro listed hs hc hcl G a hst hG hd
  refine ⟨fun he => hfin listed hs (hready listed hs he) G a hst hG hd, fun j hj => ?_⟩
  obtain ⟨o, ho, hjl, hjw⟩ := (ready_iff hs).1 hj
  have hjn : j < ops.size := (Array.getElem?_eq_some_iff.1 ho).1
  have hjD : j < D.length := by omega
  obtain ⟨p, hp⟩ : ∃ p, D[j]? = some p := ⟨_, List.getElem?_eq_getElem hjD⟩
  have hpo : p.1 = o := by have := hDo j p hp; rw [ho] at this; exact (Option.some.inj this).symm
  have hit := hD.item j p hp
  let S := listedS listed
  let s := stS S 0 D st
  have hwj : ∀ k ∈ ws.getD j [], S k = true := hD.wsok.closed j o S ho hjw (fun k _ hk => hcl k hk)
  -- pairs
  have pT : ∀ (m m' : Nat) (q q' : Oper × DI), m < m' → D[m]? = some q → D[m']? = some q' → m ∉ ws.getD m' [] → apartT ops q.1 q'.1 = true := fun m m' q q' hlt hq hq' hn => by
   have h1 := hDo m q hq
   have h2 := hDo m' q' hq'
   obtain ⟨_, h⟩ := allPairs_get hD.pairT m m' q.1 q'.1 hlt (by simpa using h1) (by simpa using h2) (by simpa using hn)
   exact h
  have pF : ∀ (m m' : Nat) (q q' : Oper × DI), m < m' → D[m]? = some q → D[m']? = some q' → m ∉ ws.getD m' [] → apartF (footOf q) (footOf q') = true := fun m m' q q' hlt hq hq' hn => by
   obtain ⟨_, h⟩ := allPairs_get hD.pairF m m' (footOf q) (footOf q') hlt (by rw [List.getElem?_map, hq]; rfl) (by rw [List.getElem?_map, hq']; rfl) (by simpa using hn)
   exact h
  -- those that are listed and stand behind j do not wait for j; those ahead that are not listed are not waited for
  have nb : ∀ m, S m = true → j ∉ ws.getD m [] := fun m hm hjm => by
   have := hcl m hm j hjm
   have hjl' : listedS listed j = false := hjl
   rw [hjl'] at this; cases this
  have na : ∀ m, S m = false → m ∉ ws.getD j [] := fun m hm hmj => by rw [hwj m hmj] at hm; cases hm
  have htake : stS (fun m => decide (m < j)) 0 D st = stS (fun _ => true) 0 (D.take j) st := stS_take (fun m => by rw [Nat.zero_add])
  -- what is looked at is as it was in the text's order
  have hlook : ∀ {α : Type} {get : St → α} {W : Oper × DI → Prop}, Reg st.tmps.length get W →
   (∀ m q, m < j → D[m]? = some q → W q → (apartT ops q.1 o = true → apartF (footOf q) (footOf p) = true → False)) →
   (∀ m q, j < m → D[m]? = some q → W q → (apartT ops o q.1 = true → apartF (footOf p) (footOf q) = true → False)) →
   get (stS (fun _ => true) 0 (D.take j) st) = get s := by
   intro α get W hr h1 h2
   rw [← htake]
   refine hr.same hkill (fun m q hm hw => ?_) rfl rfl rfl
   rw [Nat.zero_add]
   rcases Nat.lt_trichotomy m j with hlt | heq | hgt
   ·have hd : decide (m < j) = true := by simpa using hlt
    rw [hd]
    cases hS : S m with
    | true => rfl
    | false =>
     exfalso
     have hn := na m hS
     exact h1 m q hlt hm hw (by have := pT m j q p hlt hm hp hn; rw [hpo] at this; exact this) (pF m j q p hlt hm hp hn)
   ·subst heq
    have hd : decide (m < m) = false := by simp
    rw [hd]; exact hjl.symm
   ·have hd : decide (m < j) = false := by simp; omega
    rw [hd]
    cases hS : S m with
    | false => rfl
    | true =>
     exfalso
     have hn := nb m hS
     exact h2 m q hgt hm hw (by have := pT j m p q hgt hp hm hn; rw [hpo] at this; exact this) (pF j m p q hgt hp hm hn)
  have hslot : ∀ t ∈ looks ops o, (stS (fun _ => true) 0 (D.take j) st).tmps.getD t TV.undef = s.tmps.getD t TV.undef := fun t ht =>
   hlook (reg_slot _ t) (fun m q _ _ hw ha _ => by
    simp only [apartT, Bool.and_eq_true] at ha
    exact disj_ok ha.1.1 (by rw [hw]; simp) ht) (fun m q _ _ hw ha _ => by
    simp only [apartT, Bool.and_eq_true] at ha
    exact disj_ok ha.2 (by rw [hw]; simp) ht)
  have hrowE : ∀ r, 2 * r ∈ p.2.rd → aget (stS (fun _ => true) 0 (D.take j) st).rows r = aget s.rows r := fun r hr =>
   hlook (reg_row _ r) (fun m q _ _ hw _ ha => by
    simp only [apartF, Bool.and_eq_true] at ha
    exact disj_ok ha.1.1 (Us_id hw) hr) (fun m q _ _ hw _ ha => by
    simp only [apartF, Bool.and_eq_true] at ha
    exact disj_ok ha.2 hr (Us_id hw))
  have hboxE : ∀ b, 2 * b + 1 ∈ p.2.rd → aget (stS (fun _ => true) 0 (D.take j) st).boxes b = aget s.boxes b := fun b hb =>
   hlook (reg_box _ b) (fun m q _ _ hw _ ha => by
    simp only [apartF, Bool.and_eq_true] at ha
    exact disj_ok ha.1.1 (Us_id hw) hb) (fun m q _ _ hw _ ha => by
    simp only [apartF, Bool.and_eq_true] at ha
    exact disj_ok ha.2 hb (Us_id hw))
  -- the guard says the same
  have hguard : ∀ {d : Bool}, Guard (stS (fun _ => true) 0 (D.take j) st) ops o d → Guard s ops o d := by
   intro d hg
   cases hg with
   | none h => exact .none h
   | told g t want b h ht hb => exact .told g t want b h ht (by rw [← hslot t (by simp [looks, h, ht])]; exact hb)
   | undef g t want h ht hb => exact .undef g t want h ht (by rw [← hslot t (by simp [looks, h, ht])]; exact hb)
  -- behind it
  have hS' : ∀ m, listedS (listed.setIfInBounds j true) m = if m = j then true else S m := listed_set (by omega)
  have heqv : (applyD p s).eqv (stS (listedS (listed.setIfInBounds j true)) 0 D st) := by
   have hlast : ∀ m q, j < m → D[m]? = some q → S m = true → apartT ops o q.1 = true ∧ apartF (footOf p) (footOf q) = true := fun m q hm hq hS => by
    have hn := nb m hS
    exact ⟨by have := pT j m p q hm hp hq hn; rw [hpo] at this; exact this, pF j m p q hm hp hq hn⟩
   refine ⟨by rw [applyD_len, stS_len, stS_len], fun t => (reg_slot _ t).step hkill hp hS' rfl (fun hw m q hm hq hwq => ?_), fun r => (reg_row _ r).step hkill hp hS' rfl (fun hw m q hm hq hwq => ?_), fun b => (reg_box _ b).step hkill hp hS' rfl (fun hw m q hm hq hwq => ?_)⟩
   ·cases hS : S m with
    | false => rfl
    | true =>
     exfalso
     have ha := (hlast m q hm hq hS).1
     simp only [apartT, Bool.and_eq_true] at ha
     rw [hpo] at hw
     exact disj_ok ha.1.2 (n := t) (by rw [hw]; simp) (by rw [hwq]; simp)
   ·cases hS : S m with
    | false => rfl
    | true =>
     exfalso
     have ha := (hlast m q hm hq hS).2
     simp only [apartF, Bool.and_eq_true] at ha
     exact disj_ok ha.1.2 (Us_id hw) (Us_id hwq)
   ·cases hS : S m with
    | false => rfl
    | true =>
     exfalso
     have ha := (hlast m q hm hq hS).2
     simp only [apartF, Bool.and_eq_true] at ha
     exact disj_ok ha.1.2 (Us_id hw) (Us_id hwq)
  have hnext : ∀ G' a', Stp X G0 G' → Ok G' (applyD p s) a' → a'.defers = [] → wpAny P .any ops Q fuel (listed.setIfInBounds j true) a' G'.w := by
   intro G' a' hst' hG' hd'
   refine ih _ (by simpa using hs) ?_ (fun k hk q hq => ?_) G' a' hst' (hG'.eqv heqv) hd'
   ·have := countP_set (p := S) (p' := listedS (listed.setIfInBounds j true)) hjn hjl hS'
    have e : (List.range ops.size).countP S = (List.range ops.size).countP (listedS listed) := rfl
    rw [this, e]; omega
   ·rw [hS']
    split
    ·rfl
    ·rw [hS'] at hk
     split at hk
     ·rename_i e; subst e; exact hwj q hq
     ·exact hcl k hk q hq
  -- names
  have hnames : ∀ n, s.Names n → ¬ Fs i j n := by
   intro n hn hf
   have hs128 : inSite i 0 128 n = true := inSite_mono (by omega) (by have := hD.small; omega) hf
   rcases stS_names hn with h | ⟨m, q, hq, hSm, h⟩
   ·rw [hD.free n h] at hs128; cases hs128
   ·rw [Nat.zero_add] at hSm
    have hSj : S j = false := hjl
    rcases (hD.item m q hq).names n h hs128 with h' | ⟨k, hk, h'⟩
    ·have := inSite_off hf h'
     subst this
     rw [hSj] at hSm; cases hSm
    ·have := inSite_off hf h'
     subst this
     have := hcl m hSm j hk
     have hjl' : listedS listed j = false := hjl
     rw [hjl'] at this; cases this
  unfold wpOp
  rw [ho]
  simp only
  have hGs : Ok G s a := hG
  rcases hit.is with ⟨hg, hd0⟩ | ⟨hg, hrd, hact⟩
  ·rw [hpo] at hg
   rw [if_neg (by rw [(hguard hg).wanted hGs]; simp)]
   refine hnext G _ hst ?_ (by rw [put_defers]; exact hd)
   have : applyD p s = putT o.dst TV.undef s := by simp only [applyD, hd0, hpo]; rfl
   rw [this]
   exact hGs.undef o.dst
  ·rw [hpo] at hg hact
   rw [if_pos (by rw [(hguard hg).wanted hGs])]
   left
   have hGn : Ok G (narrow (stS (fun _ => true) 0 (D.take j) st) (looks ops o) p.2.rd) a := hGs.narrow (by rw [stS_len]; show _ = (stS S 0 D st).tmps.length; rw [stS_len]) hslot hrowE hboxE
   refine hact G a hGn _ _ fun G' val hs' hv hu => ?_
   have hst' : Stp X G G' := Stp.of hs' (by rw [hit.kill, Bool.and_false])
   refine hnext G' _ (hst.trans hst') ?_ (by rw [put_defers]; exact hd)
   have := (hGs.apply hnames hs' hu).put o.dst hv
   rw [show applyD p s = putT o.dst p.2.v (applyU p.2.us s) by simp only [applyD, hpo]]
   exact this
theorem drew_step (G : Gh) : Step U F kl G { G with w := { G.w with drawn := G.w.drawn + 1 } } :=
 ⟨rfl, rfl, rfl, Nat.le_refl _, fun _ _ _ => ⟨rfl, rfl⟩, fun _ b r i j _ h => ⟨rfl, by show lvl 1 (G.who b); rw [h]; rfl⟩, fun _ _ => rfl, fun _ _ => rfl⟩
/-- a region whose order is drawn -/
theorem region_draw_sound (hX : XOk P X) {i : Nat} {ops : Array Oper} {K : St → Option Res} {r : Res} (hf : freeAt i st = true) (hn : ops.size ≤ 128) (hpT : allPairs (fun _ p q => apartT ops p q) (waits ops.toList []) 0 ops.toList = true) (hbe : backE 0 ops.toList = true)
 (h : opsD X i ops (waits ops.toList []) 0 ops.toList st [] K = some r) :
 ∃ st', K st' = some r ∧ ∀ G a Q, Ok G st a → a.defers = [] → Post X G st' (Q .normal) → (Code.region i ops true).wp P Q a G.w := by
 have hw := waits_ok hbe
 have hfree := freeAt_ok hf
 obtain ⟨D, h1, h2, h3, h4⟩ := opsD_trace hX hw.lt ops.toList 0 st [] (by simpa using hn) (fun n hn hs => by rw [hfree n hn] at hs; cases hs) h
 refine ⟨_, h2, fun G a Q hG hd hQ => ?_⟩
 have hD : Drawn P i ops (waits ops.toList []) D st := ⟨h1, hw, hpT, by simpa using h3, fun m p hp => by simpa using h4 m p hp, hfree, hn⟩
 refine wp_region_any hX.mixed ?_
 have hst : Stp X G { G with w := { G.w with drawn := G.w.drawn + 1 } } := drew_step G
 have hG1 : Ok { G with w := { G.w with drawn := G.w.drawn + 1 } } st a := by
  have := hG.apply (us := []) (F := fun _ => False) (fun _ _ h => h) (drew_step G) (UpdsOk.nil _)
  exact this
 have hl0 : ∀ k, listedS (Array.replicate ops.size false) k = false := by
  intro k
  simp only [listedS, Array.getD_eq_getD_getElem?, Array.getElem?_replicate]
  split <;> rfl
 refine drawn_sound hD hQ ops.size _ (by simp) (by omega) (fun k hk => by rw [hl0] at hk; cases hk) _ a hst ?_ hd
 have : stS (listedS (Array.replicate ops.size false)) 0 D st = st := by
  have e : listedS (Array.replicate ops.size false) = fun _ => false := funext hl0
  rw [e]; exact stS_none
 rw [this]
 exact hG1
end Go.Tv
set_option autoImplicit false
namespace Go.Tv
open Go
variable [Env]
variable {P : Program} {G G' : Gh} {X : Ctx} {F U : Nat → Prop} {kl : Bool} {o : Oper} {st : St}
theorem Stp.ren (X : Ctx) (G : Gh) (f : Tag → Tag) (hf : ∀ r i j, lvl 1 (f (.nest r i j))) (h : ∀ t, t.owner = none → f t = t) : Stp X G (G.ren f) :=
 Step.ren G f (fun t ht => h t (by
  cases ho : t.owner with
  | none => rfl
  | some n => exact absurd trivial (ht n ho))) (fun _ => hf)
def fFrz (r : Nat) : Tag → Tag
 | .row r' => if r' = r then .imm else .row r'
 | .nest r' i j => if r' = r then .imm else .nest r' i j
 | t => t
/-- a row that is frozen, with what it leads to -/
theorem freeze_ok {act : Act} (hG : Ok G st act) {r : Nat} {R : Row} (hR : aget st.rows r = some R) (hl : R.live ≤ 1) :
 Stp X G (G.ren (fFrz r)) ∧ Ok (G.ren (fFrz r)) (applyU [.row r { R with live := 1, eu := R.eu && !nested R.e }] st) act ∧ (∀ g, G.who g = rtag r R.live → (G.ren (fFrz r)).who g = .imm) ∧ ∀ (g i j : Nat), G.who g = .nest r i j → (G.ren (fFrz r)).who g = .imm := by
 have hlv : ∀ r' i j, lvl 1 (fFrz r (.nest r' i j)) := by
  intro r' i j; simp only [fFrz]; split
  ·trivial
  ·rfl
 have hown : ∀ t, t.owner = none → fFrz r t = t := by intro t h; cases t <;> first | rfl | cases h
 have hrt : fFrz r (rtag r R.live) = .imm := by
  unfold rtag; split
  ·simp [fFrz]
  ·rfl
 refine ⟨Stp.ren X G _ hlv hown, ?_, fun g hg => by show fFrz r (G.who g) = _; rw [hg]; exact hrt, fun g i j hg => by show fFrz r (G.who g) = _; rw [hg]; simp [fFrz]⟩
 have hs : Step (Us [.row r { R with live := 1, eu := R.eu && !nested R.e }]) (fun _ => False) false G (G.ren (fFrz r)) := by
  refine Step.ren G _ (fun t ht => ?_) (fun _ => hlv)
  cases t with
  | row r' => have := ht _ rfl; simp only [fFrz]; rw [if_neg (fun e => this (by rw [e]; exact Us_row))]
  | nest r' i j => have := ht _ rfl; simp only [fFrz]; rw [if_neg (fun e => this (by rw [e]; exact Us_row))]
  | _ => rfl
 refine hG.apply (fun _ _ h => h) hs (UpdsOk.row ?_)
 obtain ⟨h1, h2, h3, h4, h5, h6, h7⟩ := hG.rows r R hR
 refine ⟨h1, h2, h3, h4, h5, fun _ => ?_, fun h => by cases h⟩
 obtain ⟨cells, hb, he⟩ := h6 hl
 refine ⟨cells, ?_, ?_⟩
 ·have := hb.ren (f := fFrz r)
  rw [hrt] at this
  exact this
 ·cases hn : nested R.e with
  | false => exact ElsV.flat hn he
  | true =>
   have : (R.eu && !true) = false := by simp
   simp only [this]
   refine he.mono (fun i j k xs v hh => ?_) (fun _ _ h => h)
   cases hE : R.eu with
   | false => rw [hE] at hh; exact IntsV.ren rfl hh
   | true => rw [hE] at hh; exact OwnV.imm (f := fFrz r) (by simp [fFrz]) hh
/-- many are frozen -/
theorem freezeL_ok {act : Act} : ∀ {rs : List Nat} {G : Gh} {st : St}, Ok G st act → (∀ r ∈ rs, ∃ R, aget st.rows r = some R ∧ R.live ≤ 1) →
 ∃ G', G'.w = G.w ∧ G'.κ = G.κ ∧ G'.β = G.β ∧ Stp X G G' ∧ Ok G' { st with rows := freezeL rs st.rows } act ∧ (∀ g, G.who g = .imm → G'.who g = .imm) ∧
  (∀ x g, lvl x (G.who g) → lvl x (G'.who g)) ∧ ∀ r ∈ rs, ∀ R, aget st.rows r = some R → (∀ g, G.who g = rtag r R.live → G'.who g = .imm) ∧ ∀ g i j, G.who g = .nest r i j → G'.who g = .imm
 | [], G, st, hG, _ => ⟨G, rfl, rfl, rfl, Stp.refl X G, hG, fun _ h => h, fun _ _ h => h, fun r h => (by cases h)⟩
 | r :: rs, G, st, hG, h => by
  obtain ⟨R, hR, hl⟩ := h r (List.mem_cons_self ..)
  obtain ⟨a1, a2, a3, a4⟩ := freeze_ok (X := X) hG hR hl
  have himm : ∀ g, G.who g = .imm → (G.ren (fFrz r)).who g = .imm := fun g hg => by show fFrz r (G.who g) = _; rw [hg]; rfl
  have hlvl : ∀ x g, lvl x (G.who g) → lvl x ((G.ren (fFrz r)).who g) := fun x g hg => by
   show lvl x (fFrz r (G.who g))
   cases ht : G.who g <;> rw [ht] at hg <;> simp only [fFrz] <;> first | exact hg | (split <;> first | trivial | exact hg)
  have hrows : (applyU [.row r { R with live := 1, eu := R.eu && !nested R.e }] st).rows = aput st.rows r { R with live := 1, eu := R.eu && !nested R.e } := rfl
  obtain ⟨G', b1, b2, b3, b4, b5, b6, b6', b7⟩ := freezeL_ok (rs := rs) a2 (fun r' hr' => by
   obtain ⟨R', h1, h2⟩ := h r' (List.mem_cons_of_mem _ hr')
   rw [hrows, aget_aput]
   split
   ·exact ⟨_, rfl, Nat.le_refl 1⟩
   ·exact ⟨R', h1, h2⟩)
  refine ⟨G', b1, b2, b3, a1.trans b4, ?_, fun g hg => b6 g (himm g hg), fun x g hg => b6' x g (hlvl x g hg), fun r' hr' R' hR' => ?_⟩
  ·have : freezeL (r :: rs) st.rows = freezeL rs (aput st.rows r { R with live := 1, eu := R.eu && !nested R.e }) := by simp [freezeL, hR]
   rw [this]; exact b5
  ·by_cases he : r' = r
   ·subst he
    rw [hR] at hR'
    cases hR'
    exact ⟨fun g hg => b6 g (a3 g hg), fun g i j hg => b6 g (a4 g i j hg)⟩
   ·rcases List.mem_cons.1 hr' with hr' | hr'
    ·exact absurd hr' he
    ·obtain ⟨c1, c2⟩ := b7 r' hr' R' (by rw [hrows, aget_aput, if_neg he]; exact hR')
     have hne : ∀ {t : Tag}, (t = rtag r' R'.live ∨ ∃ i j, t = .nest r' i j) → ∀ g, G.who g = t → (G.ren (fFrz r)).who g = t := by
      intro t ht g hg
      show fFrz r (G.who g) = t
      rw [hg]
      rcases ht with rfl | ⟨i, j, rfl⟩
      ·unfold rtag; split
       ·simp [fFrz, he]
       ·rfl
      ·simp [fFrz, he]
     exact ⟨fun g hg => c1 g (hne (.inl rfl) g hg), fun g i j hg => c2 g i j (hne (.inr ⟨i, j, rfl⟩) g hg)⟩
end Go.Tv
set_option autoImplicit false
namespace Go.Tv
open Go
variable [Env]
variable {P : Program} {G G' : Gh} {X : Ctx} {F U : Nat → Prop} {kl : Bool} {o : Oper} {st : St}
/-- the same memory; labels may only tell more -/
structure Rel (G G' : Gh) : Prop where
 w : G'.w = G.w
 κ : G'.κ = G.κ
 β : G'.β = G.β
 lvl : ∀ x g, lvl x (G.who g) → lvl x (G'.who g)
theorem IntsV.rel (h : Rel G G') {x : Nat} {k : IntKind} {xs : List Int} {v : Value} (hv : IntsV G x k xs v) : IntsV G' x k xs v := by
 obtain ⟨A, cap, rfl, hc, hv⟩ := hv
 refine ⟨A, cap, rfl, hc, ?_⟩
 rcases hv with hv | ⟨g, b, rfl, hl, hv⟩
 ·exact .inl hv
 ·exact .inr ⟨g, b, rfl, h.lvl _ _ hl, by rw [h.w]; exact hv⟩
theorem TrV.rel (h : Rel G G') {x y : Nat} {e : List Ct} {q : Sq} {v : Value} (hv : TrV G x y e q v) : TrV G' x y e q v := by
 obtain ⟨A, cap, rfl, hf, hv⟩ := hv
 refine ⟨A, cap, rfl, hf, ?_⟩
 rcases hv with hv | ⟨g, b, rfl, hl, hv⟩
 ·exact .inl hv
 ·exact .inr ⟨g, b, rfl, h.lvl _ _ hl, by rw [h.w]; exact hv.mono (fun _ _ _ _ _ hh => IntsV.rel h hh) (fun _ _ hh => hh)⟩
theorem RV.rel (h : Rel G G') {c : C} {v : Value} (hv : RV G c v) : RV G' c v := by
 cases c with
 | tr x y e q => exact TrV.rel h hv
 | ow r => show v = (G'.κ r).val; rw [h.κ]; exact hv
 | os r b n => show ∃ A c, _; rw [h.κ]; exact hv
 | bp b p => show v = _; rw [h.β]; exact hv
 | ep r i p => show ∃ g, _; rw [h.κ]; exact hv
 | fn f caps => show v = _; rw [h.β]; exact hv
 | rp y e q i p =>
  obtain ⟨g, b, x, rfl, hl, hi, hf, he⟩ := hv
  refine ⟨g, b, x, rfl, h.lvl _ _ hl, hi, hf, fun j t hj => ?_⟩
  obtain ⟨u, c, h1, h2, h3⟩ := he j t hj
  exact ⟨u, c, by rw [h.w]; exact h1, h2, h3.mono fun _ _ _ hh => IntsV.rel h hh⟩
 | _ => exact hv
/-- what becomes a tree -/
theorem toTr_ok {act : Act} (hG : Ok G st act) {x y : Nat} {e : List Ct} {c c' : C} {fr : List Nat} (h : toTr st x y e c = some (c', fr)) :
 (∀ r ∈ fr, ∃ R, aget st.rows r = some R ∧ R.live ≤ 1) ∧ ∀ {G' : Gh}, Rel G G' → (∀ r ∈ fr, ∀ R, aget st.rows r = some R → (∀ g, G.who g = rtag r R.live → G'.who g = .imm) ∧ ∀ g i j, G.who g = .nest r i j → G'.who g = .imm) →
  ∀ v, RV G c v → RV G' c' v := by
 have row : ∀ {r : Nat} {R : Row} {G' : Gh} {b n cap : Nat} {A : Option Addr}, aget st.rows r = some R → R.live ≤ 1 → Rel G G' → ((∀ g, G.who g = rtag r R.live → G'.who g = .imm) ∧ ∀ g i j, G.who g = .nest r i j → G'.who g = .imm) →
  b + n ≤ R.q.len → n ≤ cap → (n = 0 ∨ ∃ g, (G.κ r).g = some g ∧ A = some ⟨g, b * R.e.length, none⟩) → TrV G' x y R.e (R.q.sub b n) (.slice A n cap) := by
  intro r R G' b n cap A hR hl hrel hi hbn hcap hA
  obtain ⟨h1, h2, h3, h4, h5, h6, h7⟩ := hG.rows r R hR
  obtain ⟨cells, hb, he⟩ := h6 hl
  refine ⟨A, cap, by rw [Sq.len_sub _ _ _ hbn], ⟨by rw [Sq.fits_sub]; exact h3, by rw [Sq.len_sub _ _ _ hbn]; exact hcap⟩, ?_⟩
  rw [Sq.len_sub _ _ _ hbn]
  rcases hA with hA | ⟨g, hg, rfl⟩
  ·exact .inl hA
  ·have hw : G.who g = rtag r R.live := by have := hb.2.2.2; rw [hg] at this; exact this.1
   refine .inr ⟨g, _, rfl, by rw [hi.1 g hw]; trivial, ?_⟩
   have hcell : ∀ m u, (fun k => cells[b * R.e.length + k]?) m = some u → (fun m => G'.w.cell? ⟨g, b * R.e.length + m, none⟩) m = some u := fun m u hu => by
    show G'.w.cell? _ = _
    rw [hrel.w]
    exact hb.cell hg hu
   have hlow : ∀ {k : IntKind} {xs : List Int} {v : Value}, IntsV G' 2 k xs v → IntsV G' y k xs v := fun hh => IntsV.lower (.inr (Nat.le_refl 2)) hh
   refine (he.sub b n hbn).mono (fun i j k xs v hh => ?_) hcell
   cases hE : R.eu with
   | false => rw [hE] at hh; exact hlow (IntsV.rel hrel hh)
   | true =>
    rw [hE] at hh
    obtain ⟨h0, a1, a2, a3⟩ := hh
    refine hlow (OwnV.ints (t := .imm) trivial ⟨h0, a1, a2, a3.1, a3.2.1, a3.2.2.1, ?_⟩)
    have := a3.2.2.2
    cases hgg : h0.g with
    | none => rw [hgg] at this; exact this
    | some g' => rw [hgg] at this; obtain ⟨w1, w2⟩ := this; exact ⟨hi.2 g' _ _ w1, by rw [hrel.w]; exact w2⟩
 cases c with
 | nil =>
  simp only [toTr] at h
  cases hf : (Sq.nil e).fits e with
  | false => rw [hf] at h; cases h
  | true =>
   rw [hf] at h
   cases h
   refine ⟨fun r h => (by cases h), fun _ _ v hv => ?_⟩
   have hv : v = .slice none 0 0 := hv
   exact ⟨none, 0, by rw [hv, Sq.len_nil], ⟨hf, by rw [Sq.len_nil]; exact Nat.le_refl _⟩, .inl (Sq.len_nil e)⟩
 | tr x' y' e' q =>
  simp only [toTr] at h
  cases hb : ((Nat.beq x x' || Nat.beq x' 2) && (Nat.beq y y' || Nat.beq y' 2)) with
  | false => rw [hb] at h; cases h
  | true =>
   rw [hb] at h
   cases h
   simp only [Bool.and_eq_true, Bool.or_eq_true] at hb
   refine ⟨fun r h => (by cases h), fun hrel _ v hv => ?_⟩
   have lower : ∀ {a a' : Nat} {t : Tag}, (Nat.beq a a' = true ∨ Nat.beq a' 2 = true) → lvl a' t → lvl a t := by
    intro a a' t h ht
    rcases h with h | h
    ·rw [Nat.eq_of_beq_eq_true h]; exact ht
    ·rw [Nat.eq_of_beq_eq_true h] at ht
     cases t <;> simp only [lvl] at ht ⊢ <;> omega
   obtain ⟨A, cap, rfl, hf, hv⟩ := TrV.rel hrel hv
   refine ⟨A, cap, rfl, hf, ?_⟩
   rcases hv with hv | ⟨g, b, rfl, hl, hv⟩
   ·exact .inl hv
   ·refine .inr ⟨g, b, rfl, lower hb.1 hl, hv.mono (fun i j k xs v hh => ?_) (fun _ _ hh => hh)⟩
    obtain ⟨A, cap, rfl, hc, hh⟩ := hh
    refine ⟨A, cap, rfl, hc, ?_⟩
    rcases hh with hh | ⟨g, b, rfl, hl, hh⟩
    ·exact .inl hh
    ·exact .inr ⟨g, b, rfl, lower hb.2 hl, hh⟩
 | ow r =>
  simp only [toTr] at h
  cases hR : aget st.rows r with
  | none => rw [hR] at h; cases h
  | some R =>
   rw [hR] at h
   simp only at h
   cases hl : Nat.ble R.live 1 with
   | false => rw [hl] at h; cases h
   | true =>
    rw [hl] at h
    cases h
    refine ⟨fun r' hr' => by rw [List.mem_singleton.1 hr']; exact ⟨R, hR, ble_le hl⟩, fun hrel hi v hv => ?_⟩
    have hv : v = (G.κ r).val := hv
    have hrow := hG.rows r R hR
    rw [hv, Hd.val, ← hrow.1]
    have := row (b := 0) (n := R.q.len) (cap := (G.κ r).cap) (A := (G.κ r).addr 0) hR (ble_le hl) hrel (hi r (List.mem_singleton.2 rfl) R hR) (by omega) (by have := hrow.1; have := hrow.2.2.2.2.1; omega) (by
     by_cases h0 : R.q.len = 0
     ·exact .inl h0
     ·right
      cases hg : (G.κ r).g with
      | none => have := hrow.2.2.2.1 hg; have := hrow.1; have := hrow.2.2.2.2.1; omega
      | some g => exact ⟨g, rfl, by simp [Hd.addr, hg]⟩)
    rw [Sq.sub_all] at this
    exact this
 | os r b n =>
  simp only [toTr] at h
  cases hR : aget st.rows r with
  | none => rw [hR] at h; cases h
  | some R =>
   rw [hR] at h
   simp only at h
   cases hl : Nat.ble R.live 1 with
   | false => rw [hl] at h; cases h
   | true =>
    rw [hl] at h
    cases h
    refine ⟨fun r' hr' => by rw [List.mem_singleton.1 hr']; exact ⟨R, hR, ble_le hl⟩, fun hrel hi v hv => ?_⟩
    obtain ⟨A, cap, rfl, ⟨h1, h2⟩, h3, _⟩ := hv
    have hrow := hG.rows r R hR
    refine row hR (ble_le hl) hrel (hi r (List.mem_singleton.2 rfl) R hR) (by have := hrow.1; omega) h2 ?_
    rcases h3 with h3 | ⟨g, hg, h3⟩
    ·exact .inl h3
    ·exact .inr ⟨g, hg, by rw [h3, hrow.2.1]⟩
 | _ => cases h; exact ⟨fun r h => (by cases h), fun hrel _ v hv => RV.rel hrel hv⟩
theorem modAt_ok {f : C → Option (C × List Nat)} : ∀ {k : Nat} {cs cs' : List C} {fr : List Nat}, modAt f k cs = some (cs', fr) → (cs' = cs ∧ fr = []) ∨ ∃ c c', cs[k]? = some c ∧ f c = some (c', fr) ∧ cs' = cs.set k c'
 | k, [], cs', fr, h => by cases k <;> (cases h; exact .inl ⟨rfl, rfl⟩)
 | 0, c :: cs, cs', fr, h => by
  simp only [modAt] at h
  split at h
  ·rename_i c' l hc; cases h; exact .inr ⟨c, c', rfl, hc, rfl⟩
  ·cases h
 | k + 1, c :: cs, cs', fr, h => by
  simp only [modAt] at h
  split at h
  ·rename_i cs1 l hc
   cases h
   rcases modAt_ok hc with ⟨rfl, rfl⟩ | ⟨d, d', h1, h2, rfl⟩
   ·exact .inl ⟨rfl, rfl⟩
   ·exact .inr ⟨d, d', h1, h2, rfl⟩
  ·cases h
/-- cells, one of them a tree from now on -/
theorem modRVs {act : Act} (hG : Ok G st act) {x y k : Nat} {e : List Ct} {cs cs' : List C} {fr : List Nat} (h : modAt (toTr st x y e) k cs = some (cs', fr)) :
 (∀ r ∈ fr, ∃ R, aget st.rows r = some R ∧ R.live ≤ 1) ∧ cs'.length = cs.length ∧ ∀ {G' : Gh}, Rel G G' → (∀ r ∈ fr, ∀ R, aget st.rows r = some R → (∀ g, G.who g = rtag r R.live → G'.who g = .imm) ∧ ∀ g i j, G.who g = .nest r i j → G'.who g = .imm) →
  ∀ (j : Nat) (c' : C), cs'[j]? = some c' → ∃ c, cs[j]? = some c ∧ ∀ v, RV G c v → RV G' c' v := by
 rcases modAt_ok h with ⟨rfl, rfl⟩ | ⟨c, c', h1, h2, rfl⟩
 ·exact ⟨fun r h => (by cases h), rfl, fun hrel _ j c' hj => ⟨c', hj, fun v hv => RV.rel hrel hv⟩⟩
 ·obtain ⟨a1, a2⟩ := toTr_ok hG h2
  refine ⟨a1, by simp, fun hrel hi j d hj => ?_⟩
  rw [List.getElem?_set] at hj
  split at hj
  ·rename_i e
   subst e
   split at hj
   ·cases hj; exact ⟨c, h1, a2 hrel hi⟩
   ·cases hj
  ·exact ⟨d, hj, fun v hv => RV.rel hrel hv⟩
theorem Ok.setSlot {act : Act} (h : Ok G st act) {t : Nat} {v : TV} (hv : TVV G v (act.tmps.getD t Go.undef)) : Ok G { st with tmps := st.tmps.set t v } act := by
 refine ⟨h.env, by simp only [List.length_set]; exact h.size, fun k => ?_, h.rows, h.boxes⟩
 show TVV G ((st.tmps.set t v).getD k TV.undef) _
 rw [List.getD_eq_getElem?_getD, List.getElem?_set]
 split
 ·rename_i e
  subst e
  split
  ·exact hv
  ·rename_i hl
   have := h.tmps t
   rw [List.getD_eq_getElem?_getD, List.getElem?_eq_none (Nat.le_of_not_lt hl)] at this
   exact this
 ·have := h.tmps k
  rw [List.getD_eq_getElem?_getD] at this
  exact this
theorem convs_ok {act : Act} : ∀ {l : List (Nat × Nat × Nat × Nat × List Ct)} {st st' : St} {G : Gh}, convs l st = some st' → Ok G st act → ∃ G', G'.w = G.w ∧ Stp X G G' ∧ Ok G' st' act
 | [], st, st', G, h, hG => by cases h; exact ⟨G, rfl, Stp.refl X G, hG⟩
 | (n, k, x, y, e) :: l, st, st', G, h, hG => by
  simp only [convs] at h
  have next : ∀ {st1 : St} {G1 : Gh}, convs l st1 = some st' → G1.w = G.w → Stp X G G1 → Ok G1 st1 act → ∃ G', G'.w = G.w ∧ Stp X G G' ∧ Ok G' st' act := fun h1 hw hs hok => by
   obtain ⟨G', a1, a2, a3⟩ := convs_ok h1 hok
   exact ⟨G', a1.trans hw, hs.trans a2, a3⟩
  cases hb : Nat.beq (n % 2) 0 with
  | true =>
   rw [hb] at h
   simp only [cond_true] at h
   split at h
   ·rename_i v hv
    split at h
    ·rename_i cs fr hm
     obtain ⟨a1, a2, a3⟩ := modRVs hG hm
     obtain ⟨G1, b1, b2, b3, b4, b5, b6, b7, b8⟩ := freezeL_ok (X := X) hG a1
     refine next h b1 b4 (Ok.setSlot (st := { st with rows := freezeL fr st.rows }) b5 ?_)
     have hrel : Rel G G1 := ⟨b1, b2, b3, b7⟩
     have hcell := a3 hrel b8
     have hval := hG.tmps (n / 2)
     by_cases hlt : n / 2 < st.tmps.length
     ·rw [List.getD_eq_getElem?_getD, List.getElem?_eq_getElem hlt] at hv hval
      simp only [Option.getD_some] at hv hval
      rw [hv] at hval
      obtain ⟨agg, cs0⟩ := v
      cases agg with
      | true =>
       obtain ⟨vs, he, hr⟩ := hval
       refine ⟨vs, he, by rw [a2]; exact hr.1, fun j c' hj => ?_⟩
       obtain ⟨c, hc, hcv⟩ := hcell j c' hj
       obtain ⟨u, h1, h2, h3⟩ := hr.2 j c hc
       exact ⟨u, h1, hcv u h2, h3⟩
      | false =>
       obtain ⟨c, hc, hr⟩ := hval
       simp only at hc
       subst hc
       match cs, a2, hcell with
       | [c'], _, hcell =>
        obtain ⟨c0, hc0, hcv⟩ := hcell 0 c' rfl
        cases hc0
        exact ⟨c', rfl, hcv _ hr⟩
     ·rw [List.getD_eq_getElem?_getD, List.getElem?_eq_none (Nat.le_of_not_lt hlt)] at hv
      have hv : v = ⟨false, [.dead]⟩ := by cases hv; rfl
      subst hv
      match cs, a2, hcell with
      | [c'], _, hcell =>
       obtain ⟨c0, hc0, hcv⟩ := hcell 0 c' rfl
       cases hc0
       exact ⟨c', rfl, hcv _ trivial⟩
    ·cases h
   ·exact next h rfl (Stp.refl X G) hG
  | false =>
   rw [hb] at h
   simp only [cond_false] at h
   split at h
   ·rename_i cs0 hbx
    split at h
    ·rename_i cs fr hm
     obtain ⟨a1, a2, a3⟩ := modRVs hG hm
     obtain ⟨G1, b1, b2, b3, b4, b5, b6, b7, b8⟩ := freezeL_ok (X := X) hG a1
     have hrel : Rel G G1 := ⟨b1, b2, b3, b7⟩
     have hcell := a3 hrel b8
     refine next h b1 b4 ⟨b5.env, b5.size, b5.tmps, b5.rows, fun b cs' hq => ?_⟩
     have hb2 : aget (aput st.boxes (n / 2) cs) b = some cs' := hq
     rw [aget_aput] at hb2
     split at hb2
     ·rename_i e
      subst e
      have hb3 := Option.some.inj hb2
      subst hb3
      obtain ⟨hw, cur, te, hh, hr⟩ := hG.boxes _ cs0 hbx
      obtain ⟨hw1, cur1, te1, hh1, _⟩ := b5.boxes _ cs0 hbx
      refine ⟨hw1, cur, te, by rw [b3, b1]; exact hh, by rw [a2]; exact hr.1, fun j c' hj => ?_⟩
      obtain ⟨c, hc, hcv⟩ := hcell j c' hj
      obtain ⟨u, h1, h2, h3⟩ := hr.2 j c hc
      exact ⟨u, h1, hcv u h2, h3⟩
     ·exact b5.boxes b cs' hb2
    ·cases h
   ·exact next h rfl (Stp.refl X G) hG
end Go.Tv
set_option autoImplicit false
namespace Go.Tv
open Go
variable [Env]
variable {P : Program} {G G' : Gh} {X : Ctx} {F U : Nat → Prop} {kl : Bool} {o : Oper} {st : St}
def revOf (rn : List (Nat × Nat)) (x : Nat) : Option Nat := (rn.find? fun p => Nat.beq p.2 x).map (·.1)
def fRen (rn : List (Nat × Nat)) (w z : List Nat) : Tag → Tag
 | .row r => match aget rn r with
  | some r' => if z.any (Nat.beq r') then .imm else .row r'
  | none => .imm
 | .nest r i j => match aget rn r with
  | some r' => if w.any (Nat.beq r') then .imm else .nest r' i j
  | none => .imm
 | t => t
def renG (G : Gh) (rn : List (Nat × Nat)) (w z : List Nat) : Gh :=
 { κ := fun x => match revOf rn x with | some r => G.κ r | none => G.κ x, β := G.β, who := fun b => fRen rn w z (G.who b), w := G.w }
theorem revOf_mem {rn : List (Nat × Nat)} {x r : Nat} (h : revOf rn x = some r) : (r, x) ∈ rn := by
 simp only [revOf, Option.map_eq_some_iff] at h
 obtain ⟨p, h1, rfl⟩ := h
 have h2 := List.find?_some h1
 have := Nat.eq_of_beq_eq_true h2
 have hm := List.mem_of_find?_eq_some h1
 obtain ⟨a, b⟩ := p
 simp only at this
 subst this
 exact hm
theorem revOf_of {rn : List (Nat × Nat)} (hn : (rn.map (·.2)).Nodup) {x r : Nat} (h : (r, x) ∈ rn) : revOf rn x = some r := by
 induction rn with
 | nil => cases h
 | cons p rn ih =>
  obtain ⟨a, b⟩ := p
  simp only [List.map_cons, List.nodup_cons] at hn
  simp only [revOf, List.find?_cons]
  cases hb : Nat.beq b x with
  | true =>
   have := Nat.eq_of_beq_eq_true hb
   subst this
   rcases List.mem_cons.1 h with h | h
   ·cases h; rfl
   ·exact absurd (List.mem_map.2 ⟨_, h, rfl⟩) hn.1
  | false =>
   rcases List.mem_cons.1 h with h | h
   ·cases h; simp at hb
   ·exact ih hn.2 h
section ren
variable {rn : List (Nat × Nat)} {w z : List Nat}
theorem lvl_ren {x : Nat} {t : Tag} (h : lvl x t) : lvl x (fRen rn w z t) := by
 cases t with
 | row r => exact h.elim
 | nest r i j =>
  simp only [fRen]
  split
  ·split
   ·trivial
   ·exact h
  ·trivial
 | _ => exact h
theorem renκ (hn : (rn.map (·.2)).Nodup) {r r' : Nat} (h : (r, r') ∈ rn) : (renG G rn w z).κ r' = G.κ r := by
 simp [renG, revOf_of hn h]
theorem IntsV.renG {x : Nat} {k : IntKind} {xs : List Int} {v : Value} (hv : IntsV G x k xs v) : IntsV (renG G rn w z) x k xs v := by
 obtain ⟨A, cap, rfl, hc, hv⟩ := hv
 refine ⟨A, cap, rfl, hc, ?_⟩
 rcases hv with hv | ⟨g, b, rfl, hl, hv⟩
 ·exact .inl hv
 ·exact .inr ⟨g, b, rfl, lvl_ren hl, hv⟩
theorem TrV.renG {x y : Nat} {e : List Ct} {q : Sq} {v : Value} (hv : TrV G x y e q v) : TrV (renG G rn w z) x y e q v := by
 obtain ⟨A, cap, rfl, hf, hv⟩ := hv
 refine ⟨A, cap, rfl, hf, ?_⟩
 rcases hv with hv | ⟨g, b, rfl, hl, hv⟩
 ·exact .inl hv
 ·exact .inr ⟨g, b, rfl, lvl_ren hl, hv.mono (fun _ _ _ _ _ hh => IntsV.renG hh) (fun _ _ hh => hh)⟩
theorem RV.renG (hn : (rn.map (·.2)).Nodup) {boxes : List (Nat × List C)} {c : C} {v : Value} (hv : RV G c v) : RV (renG G rn w z) (normC rn boxes c) v := by
 cases c with
 | tr x y e q => exact TrV.renG hv
 | ow r =>
  simp only [normC]
  split
  ·rename_i r' hr; show v = _; rw [renκ hn (aget_mem hr)]; exact hv
  ·trivial
 | os r b n =>
  simp only [normC]
  split
  ·rename_i r' hr; show ∃ A c, _; rw [renκ hn (aget_mem hr)]; exact hv
  ·trivial
 | ep r i p =>
  simp only [normC]
  split
  ·rename_i r' hr; show ∃ g, _; rw [renκ hn (aget_mem hr)]; exact hv
  ·trivial
 | bp b p =>
  simp only [normC]
  split
  ·exact hv
  ·trivial
 | fn f caps =>
  simp only [normC]
  cases (caps.all fun b => (aget boxes b).isSome) with
  | true => exact hv
  | false => trivial
 | rp y e q i p =>
  obtain ⟨g, b, x, rfl, hl, hi, hf, he⟩ := hv
  refine ⟨g, b, x, rfl, lvl_ren hl, hi, hf, fun j t hj => ?_⟩
  obtain ⟨u, c, h1, h2, h3⟩ := he j t hj
  exact ⟨u, c, h1, h2, h3.mono fun _ _ _ hh => IntsV.renG hh⟩
 | _ => exact hv
theorem RVs.renG (hn : (rn.map (·.2)).Nodup) {boxes : List (Nat × List C)} {cs : List C} {vs : List Value} (hv : RVs G cs vs) : RVs (renG G rn w z) (cs.map (normC rn boxes)) vs := by
 refine ⟨by rw [List.length_map]; exact hv.1, fun j c hj => ?_⟩
 rw [List.getElem?_map] at hj
 cases hc : cs[j]? with
 | none => rw [hc] at hj; cases hj
 | some c0 =>
  rw [hc] at hj
  cases hj
  obtain ⟨u, h1, h2, h3⟩ := hv.2 j c0 hc
  exact ⟨u, h1, h2.renG hn, h3⟩
theorem V1V.renG (hn : (rn.map (·.2)).Nodup) {boxes : List (Nat × List C)} {x : V1} {v : Value} (hv : V1V G x v) : V1V (renG G rn w z) ⟨x.agg, x.cs.map (normC rn boxes)⟩ v := by
 obtain ⟨agg, cs⟩ := x
 cases agg with
 | true => obtain ⟨vs, rfl, hr⟩ := hv; exact ⟨vs, rfl, hr.renG hn⟩
 | false =>
  obtain ⟨c, hc, hr⟩ := hv
  simp only at hc
  subst hc
  exact ⟨_, rfl, hr.renG hn⟩
theorem TVV.renG (hn : (rn.map (·.2)).Nodup) {boxes : List (Nat × List C)} {x : TV} {v : Value} (hv : TVV G x v) : TVV (renG G rn w z) (normV rn boxes x) v := by
 cases x with
 | v x => exact V1V.renG hn hv
 | tp xs =>
  obtain ⟨us, rfl, h1, h2⟩ := hv
  refine ⟨us, rfl, by rw [List.length_map]; exact h1, fun j x hj => ?_⟩
  rw [List.getElem?_map] at hj
  cases hx : xs[j]? with
  | none => rw [hx] at hj; cases hj
  | some x0 =>
   rw [hx] at hj
   cases hj
   obtain ⟨u, h3, h4⟩ := h2 j x0 hx
   exact ⟨u, h3, h4.renG hn⟩
 | bn cs =>
  obtain ⟨A, rfl, hr⟩ := hv
  refine ⟨A, by rw [List.length_map], ?_⟩
  rcases hr with hr | ⟨g, rfl, hw, hr⟩
  ·left; subst hr; rfl
  ·refine .inr ⟨g, rfl, by show fRen rn w z (G.who g) = _; rw [hw]; rfl, fun j c hj => ?_⟩
   rw [List.getElem?_map] at hj
   cases hc : cs[j]? with
   | none => rw [hc] at hj; cases hj
   | some c0 =>
    rw [hc] at hj
    cases hj
    obtain ⟨u, h1, h2⟩ := hr j c0 hc
    exact ⟨u, h1, h2.renG hn⟩
 | be cs i =>
  obtain ⟨g, rfl, hw, hi, hr⟩ := hv
  refine ⟨g, rfl, by show fRen rn w z (G.who g) = _; rw [hw]; rfl, by rw [List.length_map]; exact hi, fun j c hj => ?_⟩
  rw [List.getElem?_map] at hj
  cases hc : cs[j]? with
  | none => rw [hc] at hj; cases hj
  | some c0 =>
   rw [hc] at hj
   cases hj
   obtain ⟨u, h1, h2⟩ := hr j c0 hc
   exact ⟨u, h1, h2.renG hn⟩
def keepRow (w z : List Nat) (r' : Nat) (R : Row) : Row := { R with eu := R.eu && !(w.any (Nat.beq r') && nested R.e), live := bif z.any (Nat.beq r') && Nat.beq R.live 0 then 1 else bif Nat.beq R.live 3 then 2 else R.live }
theorem keepRow_3 (w z : List Nat) (r' : Nat) (R : Row) : (keepRow w z r' R).live ≠ 3 ∧ ((keepRow w z r' R).live ≤ 1 → R.live ≤ 1) := by
 simp only [keepRow]
 cases hb : (z.any (Nat.beq r') && Nat.beq R.live 0) with
 | true => simp only [Bool.and_eq_true] at hb; have := Nat.eq_of_beq_eq_true hb.2; exact ⟨fun h => absurd (show (1 : Nat) = 3 from h) (by decide), fun _ => by omega⟩
 | false =>
  cases h3 : Nat.beq R.live 3 with
  | true => exact ⟨fun h => absurd (show (2 : Nat) = 3 from h) (by decide), fun h => absurd (show (2 : Nat) ≤ 1 from h) (by decide)⟩
  | false => exact ⟨fun h => (by rw [show R.live = 3 from h] at h3; cases h3), fun h => h⟩
theorem keepR_get {rows : List (Nat × Row)} : ∀ {rn : List (Nat × Nat)} {x : Nat} {R' : Row}, aget (keepR w z rn rows) x = some R' → ∃ r R, (r, x) ∈ rn ∧ aget rows r = some R ∧ R' = keepRow w z x R
 | [], x, R', h => by cases h
 | (r, r') :: rn, x, R', h => by
  simp only [keepR] at h
  split at h
  ·rename_i R hR
   simp only [aget] at h
   cases hb : Nat.beq r' x with
   | true =>
    rw [hb] at h
    have := Nat.eq_of_beq_eq_true hb
    subst this
    exact ⟨r, R, List.mem_cons_self .., hR, (Option.some.inj h).symm⟩
   | false =>
    rw [hb] at h
    obtain ⟨r0, R0, h1, h2, h3⟩ := keepR_get h
    exact ⟨r0, R0, List.mem_cons_of_mem _ h1, h2, h3⟩
  ·obtain ⟨r0, R0, h1, h2, h3⟩ := keepR_get h
   exact ⟨r0, R0, List.mem_cons_of_mem _ h1, h2, h3⟩
theorem Blk.renG {t : Tag} {h : Hd} {cells : List Value} (hb : Blk G t h cells) : Blk (renG G rn w z) (fRen rn w z t) h cells := by
 obtain ⟨h1, h2, h3, hb⟩ := hb
 refine ⟨h1, h2, h3, ?_⟩
 cases hg : h.g with
 | none => rw [hg] at hb; exact hb
 | some g => rw [hg] at hb; obtain ⟨hw, hb⟩ := hb; exact ⟨by show fRen rn w z (G.who g) = _; rw [hw], hb⟩
theorem RowOk.renG (hk : (rn.map (·.1)).Nodup) (hn : (rn.map (·.2)).Nodup) {r r' : Nat} {R : Row} (hm : (r, r') ∈ rn) (h : RowOk G r R) : RowOk (renG G rn w z) r' (keepRow w z r' R) := by
 have hκ := renκ (G := G) (w := w) (z := z) hn hm
 have ha := aget_of_mem hk hm
 obtain ⟨h1, h2, h3, h4, h5, h6, h7⟩ := h
 refine ⟨by rw [hκ]; exact h1, by rw [hκ]; exact h2, h3, by rw [hκ]; exact h4, by rw [hκ]; exact h5, fun hl => ?_, fun h => absurd h (keepRow_3 w z r' R).1⟩
 have hl1 : R.live ≤ 1 := (keepRow_3 w z r' R).2 hl
 obtain ⟨cells, hb, he⟩ := h6 hl1
 rw [hκ]
 refine ⟨cells, ?_, ?_⟩
 ·have hlv : R.live = 0 ∨ R.live = 1 := by omega
  have := hb.renG (rn := rn) (w := w) (z := z)
  rcases hlv with hlv | hlv
  ·rw [hlv] at this
   simp only [keepRow, hlv]
   rw [show fRen rn w z (rtag r 0) = if z.any (Nat.beq r') then .imm else .row r' by show fRen rn w z (.row r) = _; simp only [fRen, ha]] at this
   cases hz : z.any (Nat.beq r') with
   | true => rw [hz] at this; exact this
   | false => rw [hz] at this; exact this
  ·rw [hlv] at this
   simp only [keepRow, hlv]
   cases z.any (Nat.beq r') <;> exact this
 ·show ElsV (NN _ r' (R.eu && !(w.any (Nat.beq r') && nested R.e))) R.e R.q _
  cases hne : nested R.e with
  | false => exact ElsV.flat hne he
  | true =>
   refine he.mono (fun i j k xs v hh => ?_) (fun _ _ h => h)
   cases hE : R.eu with
   | false => rw [hE] at hh; exact IntsV.renG hh
   | true =>
    rw [hE] at hh
    obtain ⟨h0, a1, a2, a3⟩ := hh
    have := a3.renG (rn := rn) (w := w) (z := z)
    rw [show fRen rn w z (.nest r i j) = if w.any (Nat.beq r') then .imm else .nest r' i j by simp only [fRen, ha]] at this
    cases hwb : w.any (Nat.beq r') with
    | true => rw [hwb] at this; exact OwnV.ints (x := 2) (t := .imm) trivial ⟨h0, a1, a2, this⟩
    | false => rw [hwb] at this; exact ⟨h0, a1, a2, this⟩
end ren
theorem clean_ok {c : Cl1} {st st' : St} {act : Act} (h : clean c st = some st') (hG : Ok G st act) : ∃ G', G'.w = G.w ∧ Stp X G G' ∧ Ok G' st' act := by
 unfold clean at h
 split at h
 ·cases h
 ·rename_i st1 hc
  obtain ⟨G1, a1, a2, a3⟩ := convs_ok (X := X) hc hG
  simp only at h
  generalize hrn : (c.r.filter fun p => (aget st1.rows p.1).isSome && (Nat.ble (p.1 + 1) 1000 || (keepT 0 c.t st1.tmps).any (fun v => v.ids.any (Nat.beq (2 * p.1))) ||
   (pickA st1.boxes c.b).any fun b => b.2.any fun c => c.ids.any (Nat.beq (2 * p.1)))) = rn at h
  cases hb : (nodup (rn.map (·.1)) && nodup (rn.map (·.2)) && rn.all (fun p => Nat.beq p.1 p.2 || Nat.ble 1000 p.2)) with
  | false => rw [hb] at h; cases h
  | true =>
   rw [hb] at h
   simp only [cond_true, Option.some.injEq] at h
   simp only [Bool.and_eq_true] at hb
   obtain ⟨⟨b1, b2⟩, b3⟩ := hb
   have hk := nodup_iff.1 b1
   have hn := nodup_iff.1 b2
   refine ⟨renG G1 rn c.w c.z, a1, a2.trans ⟨rfl, rfl, rfl, Nat.le_refl _, fun b _ hu => ⟨rfl, ?_⟩, fun _ b r i j _ ht => ⟨rfl, ?_⟩, fun r hr => ?_, fun _ _ => rfl⟩, ?_⟩
   ·show fRen rn c.w c.z (G1.who b) = G1.who b
    cases ht : G1.who b with
    | row r => rw [ht] at hu; exact absurd trivial (hu _ rfl)
    | nest r i j => rw [ht] at hu; exact absurd trivial (hu _ rfl)
    | _ => rfl
   ·show lvl 1 (fRen rn c.w c.z (G1.who b))
    rw [ht]
    exact lvl_ren rfl
   ·have hr : ¬ 2000 ≤ 2 * r := hr
    simp only [renG]
    split
    ·rename_i r0 h0
     have hm := revOf_mem h0
     have := List.all_eq_true.1 b3 _ hm
     simp only [Bool.or_eq_true] at this
     rcases this with h | h
     ·rw [Nat.eq_of_beq_eq_true h]
     ·have := ble_le h; omega
    ·rfl
   ·subst h
    have htm : Ok G1 { st1 with tmps := keepT 0 c.t st1.tmps, boxes := pickA st1.boxes c.b } act := by
     refine ⟨a3.env, by show (keepT 0 c.t st1.tmps).length = _; rw [keepT_len]; exact a3.size, fun t => ?_, a3.rows, fun b cs hcs => a3.boxes b cs (pickA_get hcs).1⟩
     show TVV G1 ((keepT 0 c.t st1.tmps).getD t TV.undef) _
     rw [List.getD_eq_getElem?_getD]
     cases hkt : (keepT 0 c.t st1.tmps)[t]? with
     | none =>
      have := a3.tmps t
      have hlt := List.getElem?_eq_none_iff.1 hkt
      rw [keepT_len] at hlt
      rw [List.getD_eq_getElem?_getD, List.getElem?_eq_none hlt] at this
      exact this
     | some v =>
      rcases keepT_get hkt with rfl | ⟨_, hv⟩
      ·exact TVV.dead G1 _
      ·have := a3.tmps t
       rw [List.getD_eq_getElem?_getD, hv] at this
       exact this
    refine ⟨Env.keep (Nat.le_refl _) (fun b _ ht => ⟨rfl, by show fRen _ _ _ (G1.who b) = _; rw [ht]; rfl⟩) a3.env, by show ((keepT 0 c.t st1.tmps).map _).length = _; rw [List.length_map]; exact htm.size, fun t => ?_, fun x R' hR' => ?_, fun b cs hcs => ?_⟩
    ·show TVV _ (((keepT 0 c.t st1.tmps).map (normV rn (pickA st1.boxes c.b))).getD t TV.undef) _
     rw [getD_map_kill _ _ rfl]
     exact (htm.tmps t).renG hn
    ·obtain ⟨r, R, h1, h2, rfl⟩ := keepR_get hR'
     exact (a3.rows r R h2).renG hk hn h1
    ·have hcs : aget ((pickA st1.boxes c.b).map fun p => (p.1, p.2.map (normC rn (pickA st1.boxes c.b)))) b = some cs := hcs
     rw [aget_map (fun cs : List C => cs.map (normC rn (pickA st1.boxes c.b)))] at hcs
     cases hp : aget (pickA st1.boxes c.b) b with
     | none => rw [hp] at hcs; cases hcs
     | some cs0 =>
      rw [hp] at hcs
      cases hcs
      obtain ⟨hw, cur, te, hh, hr⟩ := htm.boxes b cs0 hp
      exact ⟨by show fRen rn c.w c.z (G1.who (G1.β b)) = _; rw [hw]; rfl, cur, te, hh, hr.renG hn⟩
theorem cleanK_ok {l : List (Nat × Cl1)} {i : Nat} {K : St → Option Res} {r : Res} (h : cleanK l i st K = some r) : ∃ st', K st' = some r ∧ ∀ G act, Ok G st act → ∃ G', G'.w = G.w ∧ Stp X G G' ∧ Ok G' st' act := by
 unfold cleanK at h
 split at h
 ·split at h
  ·rename_i st' hc; exact ⟨st', h, fun G act hG => clean_ok hc hG⟩
  ·cases h
 ·exact ⟨st, h, fun G act hG => ⟨G, rfl, Stp.refl X G, hG⟩⟩
end Go.Tv
set_option autoImplicit false
namespace Go.Tv
open Go
variable [Env]
variable {P : Program} {G G' : Gh} {X : Ctx} {F U : Nat → Prop} {kl : Bool} {o : Oper} {st : St}
/-- a region, drawn or not -/
theorem regK_ok (hX : XOk P X) {i : Nat} {ops : Array Oper} {d : Bool} {K : St → Option Res} {r : Res} (h : regK X i ops d st K = some r) :
 ∃ st', K st' = some r ∧ ∀ G a Q, Ok G st a → a.defers = [] → Post X G st' (Q .normal) → (Code.region i ops d).wp P Q a G.w := by
 unfold regK at h
 cases hc : (freeAt i st && Nat.ble ops.size 128) with
 | false => rw [hc] at h; cases h
 | true =>
  rw [hc] at h
  simp only [cond_true] at h
  rw [Bool.and_eq_true] at hc
  cases d with
  | false => exact region_sound hX hc.1 (ble_le hc.2) h
  | true =>
   simp only at h
   cases hp : (allPairs (fun _ p q => apartT ops p q) (waits ops.toList []) 0 ops.toList && backE 0 ops.toList) with
   | false => rw [hp] at h; cases h
   | true =>
    rw [hp] at h
    rw [Bool.and_eq_true] at hp
    exact region_draw_sound hX hc.1 (ble_le hc.2) hp.1 hp.2 h
/-- one part of what a row leads to is a row of its own -/
def fOut (r i j r1 : Nat) : Tag → Tag
 | .nest a b c => if a = r ∧ b = i ∧ c = j then .row r1 else .nest a b c
 | t => t
def fIn (r i j r1 : Nat) : Tag → Tag
 | .row a => if a = r1 then .nest r i j else .row a
 | t => t
def outG (G : Gh) (r i j r1 : Nat) (h : Hd) : Gh := { G with who := fun b => fOut r i j r1 (G.who b), κ := fun x => if x = r1 then h else G.κ x }
def inG (G : Gh) (r i j r1 : Nat) : Gh := { G with who := fun b => fIn r i j r1 (G.who b) }
theorem freeAt_row {n r : Nat} {R : Row} (h : freeAt n st = true) (hR : aget st.rows r = some R) : r ≠ site n 0 0 := by
 intro e
 have := freeAt_ok h (2 * r) (row_name hR)
 rw [e] at this
 simp only [inSite] at this
 rw [show 2 * site n 0 0 / 2 = site n 0 0 by omega, Nat.ble_eq_true_of_le (Nat.le_refl _), Bool.true_and] at this
 have h2 : Nat.ble (site n 0 0 + 1) (site n 128 0) = true := Nat.ble_eq_true_of_le (by simp only [site]; omega)
 rw [h2] at this; cases this
theorem freeAt_not {n m : Nat} (h : freeAt n st = true) (hm : st.Names m) : m ≠ 2 * site n 0 0 := by
 intro e
 have := freeAt_ok h m hm
 rw [e] at this
 simp only [inSite] at this
 rw [show 2 * site n 0 0 / 2 = site n 0 0 by omega, Nat.ble_eq_true_of_le (Nat.le_refl _), Bool.true_and] at this
 have h2 : Nat.ble (site n 0 0 + 1) (site n 128 0) = true := Nat.ble_eq_true_of_le (by simp only [site]; omega)
 rw [h2] at this; cases this
theorem openK_ok {i : Nat} {p : Nat × Nat × Nat} {K : Nat → St → Option Res} {res : Res} (h : openK X i p st K = some res) :
 ∃ r st1, K r st1 = some res ∧ ∀ G a, Ok G st a → ∃ G1, G1.w = G.w ∧ Stp X G G1 ∧ Ok G1 st1 a := by
 unfold openK at h
 split at h
 case h_2 => cases h
 rename_i r k0 n hr hn
 split at h
 case h_2 => cases h
 rename_i R hR
 split at h
 case h_2 => cases h
 rename_i k he
 cases hc : (Nat.beq R.live 0 && R.eu && !X.nk && freeAt (200000 + i) st) with
 | false => rw [hc] at h; cases h
 | true =>
  rw [hc] at h
  simp only [cond_true] at h
  cases hd : (decide (0 ≤ n) && decide (n < (R.q.len : Int))) with
  | false => rw [hd] at h; cases h
  | true =>
   rw [hd] at h
   simp only [cond_true] at h
   refine ⟨_, _, h, ?_⟩
   simp only [Bool.and_eq_true, Bool.not_eq_true', decide_eq_true_eq] at hc hd
   obtain ⟨⟨⟨c1, c2⟩, c3⟩, c4⟩ := hc
   have c1 := Nat.eq_of_beq_eq_true c1
   generalize hs : site (200000 + i) 0 0 = r1
   generalize hi0 : n.toNat = i0
   have hlt : i0 < R.q.len := by omega
   generalize ho0 : p.2.2 = o0 at he
   have hne : r ≠ r1 := hs ▸ freeAt_row c4 hR
   intro G a hG
   obtain ⟨h1, h2, h3, h4, h5, h6, _⟩ := hG.rows r R hR
   obtain ⟨cells, hb, hel⟩ := h6 (by omega)
   rw [c1] at hb
   rw [c2] at hel
   obtain ⟨v, c, e1, e2, e3⟩ := hel i0 o0 _ hlt he
   cases c with
   | l xs =>
    obtain ⟨hd', d1, d2, d3⟩ := (show OwnV G (.nest r i0 o0) k xs v from e3)
    have hol : o0 < R.e.length := (List.getElem?_eq_some_iff.1 he).1
    have hout : ∀ {t : Tag} {h : Hd} {cs : List Value}, Blk G t h cs → Blk (outG G r i0 o0 r1 hd') (fOut r i0 o0 r1 t) h cs := by
     intro t h cs hb
     obtain ⟨b1, b2, b3, b4⟩ := hb
     refine ⟨b1, b2, b3, ?_⟩
     cases hg : h.g with
     | none => rw [hg] at b4; exact b4
     | some g => rw [hg] at b4; exact ⟨by show fOut r i0 o0 r1 (G.who g) = _; rw [b4.1], b4.2⟩
    let us : List Upd := [.kill, .row r { R with live := 3, hole := some (i0, o0, r1) }, .row r1 ⟨[.int k], .ints (((R.q.get i0).getD o0 (.i 0)).toL), true, 0, none⟩]
    have hUr : Us us (2 * r) := ⟨.row r { R with live := 3, hole := some (i0, o0, r1) }, by simp [us], rfl, rfl⟩
    have hUr1 : Us us (2 * r1) := ⟨.row r1 ⟨[.int k], .ints (((R.q.get i0).getD o0 (.i 0)).toL), true, 0, none⟩, by simp [us], rfl, rfl⟩
    have hstep : Step (Us us) (fun m => m = 2 * r1) true G (outG G r i0 o0 r1 hd') := by
     refine ⟨rfl, rfl, rfl, Nat.le_refl _, fun b _ hu => ⟨rfl, ?_⟩, fun h => (by cases h), fun x hx => ?_, fun _ _ => rfl⟩
     ·show fOut r i0 o0 r1 (G.who b) = G.who b
      cases ht : G.who b with
      | nest r' i' j' =>
       rw [ht] at hu
       simp only [fOut]
       rw [if_neg]
       rintro ⟨rfl, _⟩
       exact hu _ rfl hUr
      | _ => rfl
     ·show (if x = r1 then _ else _) = _
      rw [if_neg (fun e => hx (by rw [e]))]
    refine ⟨outG G r i0 o0 r1 hd', rfl, hstep.weak (fun _ _ => trivial) (fun m hm => by subst hm; rw [← hs]; simp only [Fc, site]; omega) (fun hn => by rw [c3] at hn; cases hn), ?_⟩
    refine hG.apply (us := us) (F := fun m => m = 2 * r1) (fun m hm => by rw [← hs]; exact freeAt_not c4 hm) hstep ?_
    have hκr : (outG G r i0 o0 r1 hd').κ r = G.κ r := by show (if r = r1 then _ else _) = _; rw [if_neg hne]
    have hκ1 : (outG G r i0 o0 r1 hd').κ r1 = hd' := by show (if r1 = r1 then _ else _) = _; rw [if_pos rfl]
    have hrow : RowOk (outG G r i0 o0 r1 hd') r { R with live := 3, hole := some (i0, o0, r1) } := by
     refine ⟨by rw [hκr]; exact h1, by rw [hκr]; exact h2, h3, by rw [hκr]; exact h4, by rw [hκr]; exact h5, fun h => absurd (show (3 : Nat) ≤ 1 from h) (by decide), fun _ => ?_⟩
     refine ⟨i0, o0, r1, k, cells, rfl, c2, hlt, he, fun e => hne e.symm, by rw [hκr]; exact hout hb, by rw [hκ1, ← d2]; exact e1, hel.mono (fun i' j' k xs v hh => ?_) (fun _ _ h => h)⟩
     by_cases hij : i' = i0 ∧ j' = o0
     ·exact .inl hij
     ·obtain ⟨h0, a1, a2, a3⟩ := (show OwnV G (.nest r i' j') k xs v from hh)
      have := hout a3
      rw [show fOut r i0 o0 r1 (.nest r i' j') = .nest r i' j' by simp only [fOut]; rw [if_neg]; rintro ⟨_, h⟩; exact hij h] at this
      exact .inr ⟨h0, a1, a2, this⟩
    have hxs : ((R.q.get i0).getD o0 (.i 0)).toL = xs := by rw [List.getD_eq_getElem?_getD, e2]; rfl
    have hd3 := hout d3
    rw [show fOut r i0 o0 r1 (.nest r i0 o0) = .row r1 by simp [fOut]] at hd3
    have hlen : xs.length = hd'.len := by have := d3.1; rw [d1] at this; simpa using this
    have hrow1 : RowOk (outG G r i0 o0 r1 hd') r1 ⟨[.int k], .ints (((R.q.get i0).getD o0 (.i 0)).toL), true, 0, none⟩ := by
     rw [hxs]
     refine ⟨by rw [hκ1]; exact hlen, by rw [hκ1]; exact d1, rfl, by rw [hκ1]; intro hg; have := d3.2.2.2; rw [hg] at this; exact this, by rw [hκ1]; exact d3.2.1, fun _ => ⟨xs.map (.int k ·), by rw [hκ1]; exact hd3, ?_⟩, fun h => by cases h⟩
     intro i j t hi hj
     have hi : i < xs.length := hi
     cases j with
     | succ j => simp at hj
     | zero =>
      cases hj
      refine ⟨.int k (xs.getD i 0), .i (xs.getD i 0), ?_, rfl, rfl⟩
      show (xs.map fun x => Value.int k x)[i * 1 + 0]? = _
      rw [List.getElem?_map, Nat.mul_one, Nat.add_zero, List.getD_eq_getElem?_getD, List.getElem?_eq_getElem hi]; rfl
    refine ⟨fun x Rx hx => ?_, fun b cs hb => ?_⟩
    ·have hx' : aget (aput (aput [] r { R with live := 3, hole := some (i0, o0, r1) }) r1 ⟨[.int k], .ints (((R.q.get i0).getD o0 (.i 0)).toL), true, 0, none⟩) x = some Rx := hx
     rw [aget_aput, aget_aput] at hx'
     split at hx'
     ·rename_i e; subst e; cases hx'; exact hrow1
     ·split at hx'
      ·rename_i e; subst e; cases hx'; exact hrow
      ·cases hx'
    ·cases hb
   | _ => exact e3.elim
theorem closeK_ok {r : Nat} {K : St → Option Res} {res : Res} (h : closeK r st K = some res) :
 ∃ st1, K st1 = some res ∧ ∀ G a, Ok G st a → ∃ G1, G1.w = G.w ∧ Stp X G G1 ∧ Ok G1 st1 a := by
 unfold closeK at h
 split at h
 case h_2 => cases h
 rename_i R hR
 cases h0 : Nat.beq R.live 0 with
 | true => rw [h0] at h; exact ⟨st, h, fun G a hG => ⟨G, rfl, Stp.refl X G, hG⟩⟩
 | false =>
  rw [h0] at h
  simp only [cond_false] at h
  cases h3 : Nat.beq R.live 3 with
  | false => rw [h3] at h; cases h
  | true =>
   rw [h3] at h
   simp only [cond_true] at h
   split at h
   case h_2 => cases h
   rename_i i0 o0 r1 hho
   split at h
   case h_2 => cases h
   rename_i R1 hR1
   split at h
   case h_2 => cases h
   rename_i l k hq1 hek
   cases hc : (Nat.beq R1.live 0 && ctsBeq R1.e [.int k]) with
   | false => rw [hc] at h; cases h
   | true =>
    rw [hc] at h
    simp only [cond_true] at h
    rw [Bool.and_eq_true] at hc
    refine ⟨_, h, fun G a hG => ?_⟩
    obtain ⟨h1, h2, h3', h4, h5, _, h7⟩ := hG.rows r R hR
    obtain ⟨i1, o1, r2, k1, cells, f1, f2, f3, f4, f5, f6, f7, f8⟩ := h7 (Nat.eq_of_beq_eq_true h3)
    rw [hho] at f1
    cases f1
    rw [hek] at f4
    cases f4
    obtain ⟨g1, g2, g3, g4, g5, g6, _⟩ := hG.rows r1 R1 hR1
    have c1 := Nat.eq_of_beq_eq_true hc.1
    have c2 := ctsBeq_eq hc.2
    obtain ⟨cs1, hb1, hel1⟩ := g6 (by omega)
    rw [c1] at hb1
    have hol : o0 < R.e.length := (List.getElem?_eq_some_iff.1 hek).1
    have hin : ∀ {t : Tag} {h : Hd} {cs : List Value}, Blk G t h cs → Blk (inG G r i0 o0 r1) (fIn r i0 o0 r1 t) h cs := by
     intro t h cs hb
     obtain ⟨b1, b2, b3, b4⟩ := hb
     refine ⟨b1, b2, b3, ?_⟩
     cases hg : h.g with
     | none => rw [hg] at b4; exact b4
     | some g => rw [hg] at b4; exact ⟨by show fIn r i0 o0 r1 (G.who g) = _; rw [b4.1], b4.2⟩
    let us : List Upd := [.row r { R with q := R.q.put i0 o0 (Nat.beq 1 R.e.length) [.l l], live := 0, hole := none }, .del r1]
    have hUr1 : Us us (2 * r1) := ⟨.del r1, by simp [us], rfl, rfl⟩
    have hstep : Step (Us us) (fun _ => False) false G (inG G r i0 o0 r1) := by
     refine ⟨rfl, rfl, rfl, Nat.le_refl _, fun b _ hu => ⟨rfl, ?_⟩, fun _ b r' i j _ ht => ⟨rfl, by show lvl 1 (fIn r i0 o0 r1 (G.who b)); rw [ht]; rfl⟩, fun x hx => rfl, fun _ _ => rfl⟩
     show fIn r i0 o0 r1 (G.who b) = G.who b
     cases ht : G.who b with
     | row r' =>
      rw [ht] at hu
      simp only [fIn]
      rw [if_neg]
      rintro rfl
      exact hu _ rfl hUr1
     | _ => rfl
    refine ⟨inG G r i0 o0 r1, rfl, hstep.weak (fun _ _ => trivial) (fun _ h => h.elim) (fun _ => rfl), ?_⟩
    refine hG.apply (us := us) (F := fun _ => False) (fun _ _ h => h) hstep ?_
    have hput := Sq.put_ok (e := R.e) (q := R.q) (i := i0) (p := o0) (cl := [.l l]) h3' f3 (by simp; omega) (fun j t hj => by obtain ⟨v, c, _, h, _⟩ := f8 i0 j t f3 hj; exact ⟨c, h⟩) (fun m t hm ht => by
     have hm : m = 0 := by simp at hm; exact hm
     subst hm
     rw [Nat.add_zero, hek] at ht
     cases ht
     exact ⟨.l l, undef, fun _ _ _ => True, rfl, trivial⟩)
    rw [show ([Cl.l l] : List Cl).length = 1 from rfl] at hput
    obtain ⟨p1, p2, p3, p4⟩ := hput
    have hrow : RowOk (inG G r i0 o0 r1) r { R with q := R.q.put i0 o0 (Nat.beq 1 R.e.length) [.l l], live := 0, hole := none } := by
     refine ⟨p1.trans h1, h2, p2, h4, h5, fun _ => ⟨cells, ?_, ?_⟩, fun h => by cases h⟩
     ·have := hin f6
      rw [show fIn r i0 o0 r1 (.row r) = .row r by simp only [fIn]; rw [if_neg (fun e => f5 e.symm)]] at this
      exact this
     ·intro i' j t hi hj
      have hi : i' < R.q.len := by have : (R.q.put i0 o0 (Nat.beq 1 R.e.length) [.l l]).len = R.q.len := p1; exact this ▸ hi
      obtain ⟨v, c, x1, x2, x3⟩ := f8 i' j t hi hj
      by_cases hij : i' = i0 ∧ j = o0
      ·obtain ⟨rfl, rfl⟩ := hij
       rw [hek] at hj
       cases hj
       have := p4 j _ hek
       rw [if_pos (by omega)] at this
       refine ⟨_, .l l, f7, by show ((R.q.put i' j _ [.l l]).get i')[j]? = _; simpa using this, ?_⟩
       show NN _ r R.eu i' j k l _
       rw [f2]
       refine ⟨G.κ r1, by rw [g2, c2]; rfl, rfl, ?_⟩
       have hb := hin hb1
       rw [show fIn r i' j r1 (rtag r1 0) = .nest r i' j by simp [rtag, fIn]] at hb
       have hcs : cs1 = l.map (.int k ·) := by
        have hl1 : cs1.length = l.length := by rw [hb1.1, g2, c2, ← g1, hq1]; simp [Sq.len]
        apply List.ext_getElem?
        intro m
        by_cases hm : m < l.length
        ·obtain ⟨v', c', y1, y2, y3⟩ := hel1 m 0 (.int k) (by rw [hq1]; exact hm) (by rw [c2]; rfl)
         rw [hq1] at y2
         simp only [Sq.get, List.getElem?_cons_zero, Option.some.injEq] at y2
         subst y2
         have y3 : v' = .int k (l.getD m 0) := y3
         rw [c2] at y1
         simp only [List.length_cons, List.length_nil, Nat.zero_add, Nat.mul_one, Nat.add_zero] at y1
         rw [y1, List.getElem?_map, List.getElem?_eq_getElem hm, y3, List.getD_eq_getElem?_getD, List.getElem?_eq_getElem hm]; rfl
        ·rw [List.getElem?_eq_none (by omega), List.getElem?_eq_none (by simp; omega)]
       rw [← hcs]
       exact hb
      ·refine ⟨v, c, x1, ?_, x3.mono fun k xs v hh => ?_⟩
       ·show ((R.q.put i0 o0 _ [.l l]).get i')[j]? = _
        by_cases hi0 : i' = i0
        ·subst hi0
         rw [p4 j t hj, if_neg (by intro h; exact hij ⟨rfl, by omega⟩)]; exact x2
        ·rw [p3 i' hi0]; exact x2
       ·rcases hh with hh | ⟨h0, a1, a2, a3⟩
        ·exact absurd hh hij
        ·show NN _ r R.eu i' j k xs v
         rw [f2]
         exact ⟨h0, a1, a2, hin a3⟩
    refine ⟨fun x Rx hx => ?_, fun b cs hb => ?_⟩
    ·have hx' : aget (adel (aput [] r { R with q := R.q.put i0 o0 (Nat.beq 1 R.e.length) [.l l], live := 0, hole := none }) r1) x = some Rx := hx
     rw [aget_adel, aget_aput] at hx'
     split at hx'
     ·cases hx'
     ·split at hx'
      ·rename_i e; subst e; cases hx'; exact hrow
      ·cases hx'
    ·cases hb
def fShr (r : Nat) : Tag → Tag
 | .nest a b c => if a = r then .imm else .nest a b c
 | t => t
theorem shrK_ok {t : Nat} {K : St → Option Res} {res : Res} (h : shrK t st K = some res) :
 ∃ st1, K st1 = some res ∧ ∀ G a, Ok G st a → ∃ G1, G1.w = G.w ∧ Stp X G G1 ∧ Ok G1 st1 a := by
 unfold shrK at h
 split at h
 case h_2 => cases h
 rename_i r hr
 split at h
 case h_2 => cases h
 rename_i R hR
 cases hl : Nat.ble R.live 1 with
 | false => rw [hl] at h; cases h
 | true =>
  rw [hl] at h
  refine ⟨_, h, fun G a hG => ?_⟩
  have hl := ble_le hl
  have hs : Step (Us [.row r { R with eu := false }]) (fun _ => False) false G (G.ren (fShr r)) := by
   refine Step.ren G _ (fun t ht => ?_) (fun _ r' i j => ?_)
   ·cases t with
    | nest r' i j => have := ht _ rfl; simp only [fShr]; rw [if_neg (fun e => this (by rw [e]; exact Us_row))]
    | _ => rfl
   ·simp only [fShr]; split
    ·trivial
    ·rfl
  refine ⟨G.ren (fShr r), rfl, hs.weak (fun _ _ => trivial) (fun _ h => h.elim) (fun _ => rfl), hG.apply (fun _ _ h => h) hs (UpdsOk.row ?_)⟩
  obtain ⟨h1, h2, h3, h4, h5, h6, h7⟩ := hG.rows r R hR
  refine ⟨h1, h2, h3, h4, h5, fun _ => ?_, fun h => absurd (show R.live = 3 from h) (by omega)⟩
  obtain ⟨cells, hb, he⟩ := h6 hl
  refine ⟨cells, ?_, he.mono (fun i j k xs v hh => ?_) (fun _ _ h => h)⟩
  ·have := hb.ren (f := fShr r)
   rw [show fShr r (rtag r R.live) = rtag r R.live by unfold rtag; split <;> rfl] at this
   exact this
  ·show IntsV _ 2 k xs v
   cases hE : R.eu with
   | false => rw [hE] at hh; exact IntsV.ren rfl hh
   | true => rw [hE] at hh; exact OwnV.imm (f := fShr r) (by simp [fShr]) hh
end Go.Tv
set_option autoImplicit false
namespace Go.Tv
open Go
variable [Env]
variable {P : Program} {G G' : Gh} {X : Ctx} {F U : Nat → Prop} {kl : Bool} {o : Oper} {st : St}
def Ex.toExit : Ex → Exit
 | .normal => .normal
 | .exit id => .exit id
inductive Out where
 | k (e : Ex) (st : St)
 | ret (st : St)
def OutOk (X : Ctx) (K : KL) (r : Res) : Out → Prop
 | .k e st => K e st = some r
 | .ret st => X.fin st = some r
def OutPost (X : Ctx) (G : Gh) (Q : Exit → Act → World → Prop) : Out → Prop
 | .k e st => Post X G st (Q e.toExit)
 | .ret st => Post X G st (Q .ret)
/-- a piece of code does what is said -/
def CodeOk (P : Program) (X : Ctx) (c : Code) (st : St) (K : KL) (r : Res) : Prop :=
 ∃ out, OutOk X K r out ∧ ∀ G a Q, Ok G st a → a.defers = [] → OutPost X G Q out → c.wp P Q a G.w
def loopsOf : Code → List (Nat × Code)
 | .seq a b => loopsOf a ++ loopsOf b
 | .cond _ a b => loopsOf a ++ loopsOf b
 | .block id (.loop b) => (id, b) :: loopsOf b
 | .block _ b => loopsOf b
 | .loop b => loopsOf b
 | _ => []
def lpK (K : St → Option Res) : KL := fun e st => match e with | .normal => K st | _ => none
def LpSound (P : Program) (X : Ctx) (id : Nat) (body : Code) : Prop := ∀ st K r, X.lp id st K = some r → CodeOk P X (.block id (.loop body)) st (lpK K) r
theorem Post.trans {st' : St} {Q : Act → World → Prop} (h : Stp X G G') (hp : Post X G st' Q) : Post X G' st' Q := fun G'' a'' hs => hp G'' a'' (Stp.trans' h hs)
 where Stp.trans' {G'' : Gh} (h : Stp X G G') (h' : Stp X G' G'') : Stp X G G'' := Step.trans h h'
theorem OutPost.trans {out : Out} {Q : Exit → Act → World → Prop} (h : Stp X G G') (hp : OutPost X G Q out) : OutPost X G' Q out := by
 cases out with
 | k e st => exact Post.trans h hp
 | ret st => exact Post.trans h hp
/-- one behind the other -/
theorem CodeOk.seq {a b : Code} {K : KL} {r : Res} (ha : CodeOk P X a st (fun e st => match e with | .normal => exec X b st K | e => K e st) r) (hb : ∀ st1, exec X b st1 K = some r → CodeOk P X b st1 K r) : CodeOk P X (.seq a b) st K r := by
 obtain ⟨out, h1, h2⟩ := ha
 cases out with
 | ret st1 => exact ⟨.ret st1, h1, fun G act Q hG hd hQ => wp_seq (h2 G act _ hG hd hQ)⟩
 | k e st1 =>
  cases e with
  | normal =>
   obtain ⟨out2, h3, h4⟩ := hb st1 h1
   exact ⟨out2, h3, fun G act Q hG hd hQ => wp_seq (h2 G act _ hG hd fun G' a' hs hG' hd' => h4 G' a' Q hG' hd' (OutPost.trans hs hQ))⟩
  | exit id => exact ⟨.k (.exit id) st1, h1, fun G act Q hG hd hQ => wp_seq (h2 G act _ hG hd hQ)⟩
theorem knowO_eq {c : Operand} {b : Bool} (h : ev1 st c = .bool b) : knowO c b st = st := by
 cases c with
 | tmp t =>
  refine know_eq ?_
  unfold ev1 at h
  simp only [ev] at h
  split at h
  ·rename_i c hc; rw [hc, h]
  ·cases h
 | _ => rfl
theorem exec_block {id : Nat} {body : Code} {K : KL} (hb : ∀ b, body ≠ .loop b) : exec X (.block id body) st K = exec X body st fun e st => match e with
 | .normal => K .normal st
 | .exit b => bif Nat.beq b id then K .normal st else K (.exit b) st := by
 cases body <;> first | rfl | exact absurd rfl (hb _)
theorem loopsOf_block {id : Nat} {body : Code} (hb : ∀ b, body ≠ .loop b) : loopsOf (.block id body) = loopsOf body := by
 cases body <;> first | rfl | exact absurd rfl (hb _)
theorem exec_sound (hX : XOk P X) : ∀ (c : Code) (st : St) (K : KL) (r : Res), (∀ p ∈ loopsOf c, LpSound P X p.1 p.2) → exec X c st K = some r → CodeOk P X c st K r
 | .skip, st, K, r, _, h => ⟨.k .normal st, h, fun G a Q hG hd hQ => wp_skip (hQ G a (Stp.refl X G) hG hd)⟩
 | .exit id, st, K, r, _, h => ⟨.k (.exit id) st, h, fun G a Q hG hd hQ => wp_exit (hQ G a (Stp.refl X G) hG hd)⟩
 | .ret, st, K, r, _, h => ⟨.ret st, h, fun G a Q hG hd hQ => wp_ret (hQ G a (Stp.refl X G) hG hd)⟩
 | .region i ops d, st, K, r, _, h => by
  simp only [exec] at h
  split at h
  ·split at h
   ·obtain ⟨st', h1, h2⟩ := regK_ok hX h
    exact ⟨.k .normal st', h1, fun G a Q hG hd hQ => h2 G a Q hG hd hQ⟩
   ·obtain ⟨st1, h1, o1⟩ := shrK_ok (X := X) h
    obtain ⟨st2, h2, o2⟩ := regK_ok hX h1
    refine ⟨.k .normal st2, h2, fun G a Q hG hd hQ => ?_⟩
    obtain ⟨G1, w1, s1, k1⟩ := o1 G a hG
    rw [← w1]
    exact o2 G1 a Q k1 hd fun G2 a2 s2 k2 hd2 => hQ G2 a2 (s1.trans s2) k2 hd2
  ·obtain ⟨r0, st1, h1, o1⟩ := openK_ok h
   obtain ⟨st2, h2, o2⟩ := regK_ok hX h1
   obtain ⟨st3, h3, o3⟩ := closeK_ok (X := X) h2
   refine ⟨.k .normal st3, h3, fun G a Q hG hd hQ => ?_⟩
   obtain ⟨G1, w1, s1, k1⟩ := o1 G a hG
   rw [← w1]
   refine o2 G1 a Q k1 hd fun G2 a2 s2 k2 hd2 => ?_
   obtain ⟨G3, w3, s3, k3⟩ := o3 G2 a2 k2
   rw [← w3]
   exact hQ G3 a2 ((s1.trans s2).trans s3) k3 hd2
 | .seq a b, st, K, r, hl, h => by
  simp only [exec] at h
  exact CodeOk.seq (exec_sound hX a st _ r (fun p hp => hl p (List.mem_append_left _ hp)) h) (fun st1 h1 => exec_sound hX b st1 K r (fun p hp => hl p (List.mem_append_right _ hp)) h1)
 | .cond c a b, st, K, r, hl, h => by
  simp only [exec] at h
  split at h
  ·rename_i t ht
   cases t with
   | true =>
    simp only [cond_true] at h
    rw [knowO_eq ht] at h
    obtain ⟨out, h1, h2⟩ := exec_sound hX a st K r (fun p hp => hl p (List.mem_append_left _ hp)) h
    exact ⟨out, h1, fun G act Q hG hd hQ => wp_cond_true (ev1_bool hG ht) (h2 G act Q hG hd hQ)⟩
   | false =>
    simp only [cond_false] at h
    rw [knowO_eq ht] at h
    obtain ⟨out, h1, h2⟩ := exec_sound hX b st K r (fun p hp => hl p (List.mem_append_right _ hp)) h
    exact ⟨out, h1, fun G act Q hG hd hQ => wp_cond_false (ev1_bool hG ht) (h2 G act Q hG hd hQ)⟩
  ·cases h
 | .block id body, st, K, r, hl, h => by
  by_cases hb : ∃ b, body = .loop b
  ·obtain ⟨b, rfl⟩ := hb
   have h : (cleanK X.cin id st fun st => X.lp id st fun st => K .normal st) = some r := h
   obtain ⟨st1, h1, h2⟩ := cleanK_ok (X := X) h
   obtain ⟨out, h3, h4⟩ := hl (id, b) (List.mem_cons_self ..) st1 _ r h1
   refine ⟨out, ?_, fun G act Q hG hd hQ => ?_⟩
   ·cases out with
    | ret st' => exact h3
    | k e st' =>
     cases e with
     | normal => exact h3
     | exit b => cases h3
   ·obtain ⟨G1, w1, s1, o1⟩ := h2 G act hG
    have := h4 G1 act Q o1 hd (OutPost.trans s1 hQ)
    rw [w1] at this
    exact this
  ·have hb : ∀ b, body ≠ .loop b := fun b e => hb ⟨b, e⟩
   rw [exec_block hb] at h
   rw [loopsOf_block hb] at hl
   obtain ⟨out, h1, h2⟩ := exec_sound hX body st _ r hl h
   cases out with
   | ret st' => exact ⟨.ret st', h1, fun G act Q hG hd hQ => wp_block (h2 G act _ hG hd hQ)⟩
   | k e st' =>
    cases e with
    | normal => exact ⟨.k .normal st', h1, fun G act Q hG hd hQ => wp_block (h2 G act _ hG hd hQ)⟩
    | exit b =>
     have h3 : (bif Nat.beq b id then K .normal st' else K (.exit b) st') = some r := h1
     cases hbe : Nat.beq b id with
     | true =>
      rw [hbe] at h3
      have := Nat.eq_of_beq_eq_true hbe
      subst this
      refine ⟨.k .normal st', h3, fun G act Q hG hd hQ => wp_block (h2 G act _ hG hd fun G' a' hs hG' hd' => ?_)⟩
      show (if b = b then Q .normal a' G'.w else _)
      rw [if_pos rfl]
      exact hQ G' a' hs hG' hd'
     | false =>
      rw [hbe] at h3
      refine ⟨.k (.exit b) st', h3, fun G act Q hG hd hQ => wp_block (h2 G act _ hG hd fun G' a' hs hG' hd' => ?_)⟩
      show (if b = id then _ else Q (.exit b) a' G'.w)
      rw [if_neg (fun e => by subst e; simp at hbe)]
      exact hQ G' a' hs hG' hd'
 | .loop _, _, _, _, _, h => by cases h
 | .goto _, _, _, _, _, h => by cases h
 | .label _, _, _, _, _, h => by cases h
/-- the rounds of a loop -/
theorem iter_sound (hX : XOk P X) {id : Nat} {body : Code} (hl : ∀ p ∈ loopsOf body, LpSound P X p.1 p.2) : ∀ (n : Nat) (st : St) (K : St → Option Res) (r : Res), iter X id body n st K = some r →
 ∃ out, OutOk X (lpK K) r out ∧ ∀ G a Q, Ok G st a → a.defers = [] → OutPost X G Q out → Code.rounds P body (Exit.inBlock id Q) n a G.w
 | 0, _, _, _, h => by cases h
 | n + 1, st, K, r, h => by
  simp only [iter] at h
  obtain ⟨out, h1, h2⟩ := exec_sound hX body st _ r hl h
  cases out with
  | ret st' => exact ⟨.ret st', h1, fun G act Q hG hd hQ => h2 G act _ hG hd hQ⟩
  | k e st' =>
   cases e with
   | normal =>
    obtain ⟨st1, h3, h4⟩ := cleanK_ok (X := X) h1
    obtain ⟨out, h5, h6⟩ := iter_sound hX hl n st1 K r h3
    refine ⟨out, h5, fun G act Q hG hd hQ => h2 G act _ hG hd fun G' a' hs hG' hd' => ?_⟩
    obtain ⟨G1, w1, s1, o1⟩ := h4 G' a' hG'
    have := h6 G1 a' Q o1 hd' (OutPost.trans (Step.trans hs s1) hQ)
    rw [w1] at this
    exact this
   | exit b =>
    have h1 : (bif Nat.beq b id then cleanK X.cout id st' K else none) = some r := h1
    cases hbe : Nat.beq b id with
    | false => rw [hbe] at h1; cases h1
    | true =>
     rw [hbe] at h1
     have := Nat.eq_of_beq_eq_true hbe
     subst this
     obtain ⟨st1, h3, h4⟩ := cleanK_ok (X := X) h1
     refine ⟨.k .normal st1, h3, fun G act Q hG hd hQ => h2 G act _ hG hd fun G' a' hs hG' hd' => ?_⟩
     obtain ⟨G1, w1, s1, o1⟩ := h4 G' a' hG'
     show (if b = b then Q .normal a' G'.w else _)
     rw [if_pos rfl, ← w1]
     exact hQ G1 a' (Step.trans hs s1) o1 hd'
theorem lp_of_iter (hX : XOk P X) {id : Nat} {body : Code} (hl : ∀ p ∈ loopsOf body, LpSound P X p.1 p.2) (h : ∀ st K r, X.lp id st K = some r → ∃ n, iter X id body n st K = some r) : LpSound P X id body := fun st K r hr => by
 obtain ⟨n, hn⟩ := h st K r hr
 obtain ⟨out, h1, h2⟩ := iter_sound hX hl n st K r hn
 exact ⟨out, h1, fun G a Q hG hd hQ => wp_block (wp_loop_rounds n (h2 G a Q hG hd hQ))⟩
end Go.Tv
set_option autoImplicit false
namespace Go.Tv
open Go
variable [Env]
variable {P : Program} {G G' : Gh} {X : Ctx} {F U : Nat → Prop} {kl : Bool} {o : Oper} {st : St}
inductive OutC (st : St) (A : Acc) : C → C → Prop
 | int (k : IntKind) (n : Int) : OutC st A (.int k n) (.int k n)
 | bool (b : Bool) : OutC st A (.bool b) (.bool b)
 | str (s : ByteArray) : OutC st A (.str s) (.str s)
 | told (y : Nat) (e : List Ct) (q : Sq) (h : y = 2 ∨ nested e = false) : OutC st A (.tr 2 y e q) (.tr 2 2 e q)
 | weak (x y : Nat) (e : List Ct) (q : Sq) (hx : 1 ≤ x) (hy : 1 ≤ y) : OutC st A (.tr x y e q) (.tr 1 1 e q)
 | nil (x : Nat) (e : List Ct) (hx : x = 1 ∨ x = 2) (hf : (Sq.nil e).fits e = true) : OutC st A .nil (.tr x x e (Sq.nil e))
 | nilnew (e : List Ct) (b : Bool) (k : Nat) (hf : (Sq.nil e).fits e = true) (hk : A.nw[k]? = some (none, ⟨e, Sq.nil e, b, 0, none⟩)) : OutC st A .nil (.ow (1000 + k))
 | share (x r : Nat) (R : Row) (hx : x = 1 ∨ x = 2) (hR : aget st.rows r = some R) (hl : R.live ≤ 1) (hm : 1000 ≤ r ∨ (R.live = 1 ∧ (R.eu = false ∨ nested R.e = false))) (hs : r ∈ A.sh) : OutC st A (.ow r) (.tr x x R.e R.q)
 | shareO (x r b n : Nat) (R : Row) (hx : x = 1 ∨ x = 2) (hR : aget st.rows r = some R) (hl : R.live ≤ 1) (hm : 1000 ≤ r ∨ (R.live = 1 ∧ (R.eu = false ∨ nested R.e = false))) (hs : r ∈ A.sh) : OutC st A (.os r b n) (.tr x x R.e (R.q.sub b n))
 | new (r : Nat) (R : Row) (b : Bool) (k : Nat) (hR : aget st.rows r = some R) (hl : R.live = 0) (hk : A.nw[k]? = some (some r, { R with eu := R.eu && !(b && nested R.e) })) : OutC st A (.ow r) (.ow (1000 + k))
 | old (r : Nat) (h : r < 1000) : OutC st A (.ow r) (.ow r)
 | bp (b p : Nat) (h : b < 1000) : OutC st A (.bp b p) (.bp b p)
 | bpd (b p : Nat) : OutC st A (.bp b p) .dead
 | fn (f : FuncId) (caps : List Nat) (h : ∀ b ∈ caps, b < 1000) : OutC st A (.fn f caps) (.fn f caps)
structure Acc.le (a a' : Acc) : Prop where
 nw : ∀ (k : Nat) p, a.nw[k]? = some p → a'.nw[k]? = some p
 sh : ∀ r ∈ a.sh, r ∈ a'.sh
theorem Acc.le.refl (a : Acc) : a.le a := ⟨fun _ _ h => h, fun _ h => h⟩
theorem Acc.le.trans {a b c : Acc} (h : a.le b) (h' : b.le c) : a.le c := ⟨fun k p x => h'.nw k p (h.nw k p x), fun r x => h'.sh r (h.sh r x)⟩
theorem OutC.mono {A A' : Acc} {c c' : C} (hl : A.le A') (h : OutC st A c c') : OutC st A' c c' := by
 cases h with
 | int k n => exact .int k n
 | bool b => exact .bool b
 | str s => exact .str s
 | told y e q h => exact .told y e q h
 | weak x y e q hx hy => exact .weak x y e q hx hy
 | nil x e hx hf => exact .nil x e hx hf
 | nilnew e b k hf hk => exact .nilnew e b k hf (hl.nw _ _ hk)
 | share x r R hx hR hlv hm hs => exact .share x r R hx hR hlv hm (hl.sh _ hs)
 | shareO x r b n R hx hR hlv hm hs => exact .shareO x r b n R hx hR hlv hm (hl.sh _ hs)
 | new r R b k hR hlv hk => exact .new r R b k hR hlv (hl.nw _ _ hk)
 | old r h => exact .old r h
 | bp b p h => exact .bp b p h
 | bpd b p => exact .bpd b p
 | fn f caps h => exact .fn f caps h
theorem new_le (a : Acc) (src : Option Nat) (R : Row) : a.le (a.new src R).2 ∧ (a.new src R).1 = .ow (1000 + a.nw.length) ∧ (a.new src R).2.nw[a.nw.length]? = some (src, R) :=
 ⟨⟨fun k p h => by show (a.nw ++ [(src, R)])[k]? = some p; rw [List.getElem?_append_left (List.getElem?_eq_some_iff.1 h).1]; exact h, fun _ h => h⟩, rfl, by show (a.nw ++ [(src, R)])[a.nw.length]? = _; simp⟩
theorem sh_le (a : Acc) (r : Nat) : a.le { a with sh := r :: a.sh } := ⟨fun _ _ h => h, fun _ h => List.mem_cons_of_mem _ h⟩
theorem mayShare_ok {r : Nat} {R : Row} (h : mayShare r R = true) : R.live ≤ 1 ∧ (1000 ≤ r ∨ (R.live = 1 ∧ (R.eu = false ∨ nested R.e = false))) := by
 simp only [mayShare, Bool.and_eq_true, Bool.or_eq_true] at h
 refine ⟨ble_le h.1, ?_⟩
 rcases h.2 with h | ⟨h1, h2⟩
 ·exact .inl (ble_le h)
 ·refine .inr ⟨Nat.eq_of_beq_eq_true h1, ?_⟩
  simpa using h2
theorem outC_ok {bt : Bt} {we : Bool} {p : Nat} {c c' : C} {a a' : Acc} (h : outC st bt we p c a = some (c', a')) : a.le a' ∧ OutC st a' c c' := by
 cases c with
 | int k n => cases h; exact ⟨.refl _, .int k n⟩
 | bool b => cases h; exact ⟨.refl _, .bool b⟩
 | str s => cases h; exact ⟨.refl _, .str s⟩
 | nil =>
  simp only [outC] at h
  split at h
  ·rename_i e eb
   cases hf : (Sq.nil e).fits e with
   | false => rw [hf] at h; cases h
   | true =>
    rw [hf] at h
    simp only [Bool.not_true, cond_false] at h
    cases h0 : Nat.beq p 0 with
    | true => rw [h0] at h; cases h; exact ⟨.refl _, .nil 2 e (.inr rfl) hf⟩
    | false =>
     rw [h0] at h
     simp only [cond_false] at h
     cases h4 : Nat.beq p 4 with
     | true => rw [h4] at h; cases h; exact ⟨.refl _, .nil 1 e (.inl rfl) hf⟩
     | false =>
      rw [h4] at h
      simp only [cond_false] at h
      cases h1 : (Nat.beq p 1 || Nat.beq p 3) with
      | false => rw [h1] at h; cases h
      | true =>
       rw [h1] at h
       simp only [cond_true, Option.some.injEq] at h
       obtain ⟨a1, a2, a3⟩ := new_le a none ⟨e, Sq.nil e, !(we && nested e), 0, none⟩
       rw [h] at a1 a2 a3
       simp only at a2
       rw [a2]
       exact ⟨a1, .nilnew e _ _ hf a3⟩
  ·cases h
 | tr x y e q =>
  simp only [outC] at h
  cases h0 : Nat.beq p 0 with
  | true =>
   rw [h0] at h
   simp only [cond_true] at h
   cases hb : (Nat.beq x 2 && (Nat.beq y 2 || !nested e)) with
   | false => rw [hb] at h; cases h
   | true =>
    rw [hb] at h
    cases h
    simp only [Bool.and_eq_true, Bool.or_eq_true, Bool.not_eq_true'] at hb
    have := Nat.eq_of_beq_eq_true hb.1
    subst this
    exact ⟨.refl _, .told y e q (hb.2.imp Nat.eq_of_beq_eq_true id)⟩
  | false =>
   rw [h0] at h
   simp only [cond_false] at h
   cases hb : (Nat.beq p 4 && Nat.ble 1 x && Nat.ble 1 y) with
   | false => rw [hb] at h; cases h
   | true =>
    rw [hb] at h
    cases h
    simp only [Bool.and_eq_true] at hb
    exact ⟨.refl _, .weak x y e q (ble_le hb.1.2) (ble_le hb.2)⟩
 | ow r =>
  simp only [outC] at h
  split at h
  ·rename_i R hR
   cases h0 : Nat.beq p 0 with
   | true =>
    rw [h0] at h
    simp only [cond_true] at h
    cases hb : mayShare r R with
    | false => rw [hb] at h; cases h
    | true =>
     rw [hb] at h
     cases h
     obtain ⟨m1, m2⟩ := mayShare_ok hb
     exact ⟨sh_le a r, .share 2 r R (.inr rfl) hR m1 m2 (List.mem_cons_self ..)⟩
   | false =>
    rw [h0] at h
    simp only [cond_false] at h
    cases h4 : Nat.beq p 4 with
    | true =>
     rw [h4] at h
     simp only [cond_true] at h
     cases hb : (Nat.ble 1000 r && Nat.ble R.live 1) with
     | false => rw [hb] at h; cases h
     | true =>
      rw [hb] at h
      cases h
      rw [Bool.and_eq_true] at hb
      exact ⟨sh_le a r, .share 1 r R (.inl rfl) hR (ble_le hb.2) (.inl (ble_le hb.1)) (List.mem_cons_self ..)⟩
    | false =>
     rw [h4] at h
     simp only [cond_false] at h
     cases h1 : (Nat.beq p 1 || Nat.beq p 3) with
     | true =>
      rw [h1] at h
      simp only [cond_true] at h
      cases hb : (Nat.beq R.live 0 && (Nat.beq p 3 || Nat.ble 1000 r)) with
      | false => rw [hb] at h; cases h
      | true =>
       rw [hb] at h
       simp only [cond_true, Option.some.injEq] at h
       rw [Bool.and_eq_true] at hb
       obtain ⟨a1, a2, a3⟩ := new_le a (some r) { R with eu := R.eu && !(we && nested R.e) }
       rw [h] at a1 a2 a3
       simp only at a2
       rw [a2]
       exact ⟨a1, .new r R we _ hR (Nat.eq_of_beq_eq_true hb.1) a3⟩
     | false =>
      rw [h1] at h
      simp only [cond_false] at h
      cases hb : Nat.ble (r + 1) 1000 with
      | false => rw [hb] at h; cases h
      | true => rw [hb] at h; cases h; exact ⟨.refl _, .old r (ble_le hb)⟩
  ·cases h
 | os r b n =>
  simp only [outC] at h
  split at h
  ·rename_i R hR
   cases h0 : Nat.beq p 0 with
   | true =>
    rw [h0] at h
    simp only [cond_true] at h
    cases hb : mayShare r R with
    | false => rw [hb] at h; cases h
    | true =>
     rw [hb] at h
     cases h
     obtain ⟨m1, m2⟩ := mayShare_ok hb
     exact ⟨sh_le a r, .shareO 2 r b n R (.inr rfl) hR m1 m2 (List.mem_cons_self ..)⟩
   | false =>
    rw [h0] at h
    simp only [cond_false] at h
    cases h4 : Nat.beq p 4 with
    | true =>
     rw [h4] at h
     simp only [cond_true] at h
     cases hb : (Nat.ble 1000 r && Nat.ble R.live 1) with
     | false => rw [hb] at h; cases h
     | true =>
      rw [hb] at h
      cases h
      rw [Bool.and_eq_true] at hb
      exact ⟨sh_le a r, .shareO 1 r b n R (.inl rfl) hR (ble_le hb.2) (.inl (ble_le hb.1)) (List.mem_cons_self ..)⟩
    | false => rw [h4] at h; cases h
  ·cases h
 | bp b q =>
  simp only [outC] at h
  cases hb : Nat.ble (b + 1) 1000 with
  | true => rw [hb] at h; cases h; exact ⟨.refl _, .bp b q (ble_le hb)⟩
  | false =>
   rw [hb] at h
   simp only [cond_false] at h
   cases h5 : Nat.beq p 5 with
   | true => rw [h5] at h; cases h; exact ⟨.refl _, .bpd b q⟩
   | false => rw [h5] at h; cases h
 | fn f caps =>
  simp only [outC] at h
  cases hb : (caps.all fun b => Nat.ble (b + 1) 1000) with
  | false => rw [hb] at h; cases h
  | true => rw [hb] at h; cases h; exact ⟨.refl _, .fn f caps fun b hm => ble_le (List.all_eq_true.1 hb b hm)⟩
 | _ => cases h
def OutL (st : St) (A : Acc) (cs cs' : List C) : Prop := cs'.length = cs.length ∧ ∀ (j : Nat) (c : C), cs[j]? = some c → ∃ c', cs'[j]? = some c' ∧ OutC st A c c'
theorem OutL.mono {A A' : Acc} {cs cs' : List C} (hl : A.le A') (h : OutL st A cs cs') : OutL st A' cs cs' := ⟨h.1, fun j c hc => by obtain ⟨c', h1, h2⟩ := h.2 j c hc; exact ⟨c', h1, h2.mono hl⟩⟩
theorem outCs_ok : ∀ {ts : List Bt} {ps : List Nat} {cs cs' : List C} {a a' : Acc}, outCs st ts ps cs a = some (cs', a') → a.le a' ∧ OutL st a' cs cs'
 | [], ps, [], cs', a, a', h => by cases h; exact ⟨.refl _, rfl, fun j c h => by simp at h⟩
 | [], ps, _ :: _, cs', a, a', h => by cases h
 | _ :: _, ps, [], cs', a, a', h => by cases h
 | t :: ts, ps, c :: cs, cs', a, a', h => by
  simp only [outCs] at h
  split at h
  ·rename_i r a1 h1
   split at h
   ·rename_i rs a2 h2
    cases h
    obtain ⟨b1, b2⟩ := outC_ok h1
    obtain ⟨b3, b4, b5⟩ := outCs_ok h2
    refine ⟨b1.trans b3, by simp [b4], fun j d hj => ?_⟩
    cases j with
    | zero => cases hj; exact ⟨r, rfl, b2.mono b3⟩
    | succ j => exact b5 j d hj
   ·cases h
  ·cases h
end Go.Tv
set_option autoImplicit false
namespace Go.Tv
open Go
variable [Env]
variable {P : Program} {G G' : Gh} {X : Ctx} {F U : Nat → Prop} {kl : Bool} {o : Oper} {st : St}
def srcAt : List (Option Nat × Row) → Nat → Nat → Option (Nat × Row)
 | [], _, _ => none
 | (some r', R) :: l, k, r => bif Nat.beq r' r then some (k, R) else srcAt l (k + 1) r
 | (none, _) :: l, k, r => srcAt l (k + 1) r
theorem srcAt_mem : ∀ {l : List (Option Nat × Row)} {k0 r k : Nat} {R : Row}, srcAt l k0 r = some (k, R) → ∃ m, k = k0 + m ∧ l[m]? = some (some r, R)
 | [], k0, r, k, R, h => by cases h
 | (some r', R') :: l, k0, r, k, R, h => by
  simp only [srcAt] at h
  cases hb : Nat.beq r' r with
  | true => rw [hb] at h; cases h; have := Nat.eq_of_beq_eq_true hb; subst this; exact ⟨0, rfl, rfl⟩
  | false => rw [hb] at h; obtain ⟨m, h1, h2⟩ := srcAt_mem h; exact ⟨m + 1, by omega, h2⟩
 | (none, R') :: l, k0, r, k, R, h => by
  simp only [srcAt] at h
  obtain ⟨m, h1, h2⟩ := srcAt_mem h; exact ⟨m + 1, by omega, h2⟩
theorem srcAt_of : ∀ {l : List (Option Nat × Row)} {k0 r m : Nat} {R : Row}, (l.filterMap (·.1)).Nodup → l[m]? = some (some r, R) → srcAt l k0 r = some (k0 + m, R)
 | [], k0, r, m, R, _, h => by simp at h
 | (some r', R') :: l, k0, r, m, R, hn, h => by
  simp only [List.filterMap_cons, List.nodup_cons] at hn
  simp only [srcAt]
  cases m with
  | zero => cases h; simp
  | succ m =>
   have h : l[m]? = some (some r, R) := h
   cases hb : Nat.beq r' r with
   | true =>
    have := Nat.eq_of_beq_eq_true hb
    subst this
    exact absurd ((List.mem_filterMap (f := fun x : Option Nat × Row => x.1)).2 ⟨_, List.mem_of_getElem? h, rfl⟩) hn.1
   | false => rw [show k0 + (m + 1) = k0 + 1 + m by omega]; exact srcAt_of hn.2 h
 | (none, R') :: l, k0, r, m, R, hn, h => by
  simp only [List.filterMap_cons] at hn
  simp only [srcAt]
  cases m with
  | zero => cases h
  | succ m => rw [show k0 + (m + 1) = k0 + 1 + m by omega]; exact srcAt_of hn h
def fFin (A : Acc) (ids : List Nat) : Tag → Tag
 | .row r => match srcAt A.nw 0 r with
  | some p => .row (1000 + p.1)
  | none => if 1000 ≤ r then .imm else .row r
 | .nest r i j => match srcAt A.nw 0 r with
  | some p => if p.2.eu then .nest (1000 + p.1) i j else .imm
  | none => if 1000 ≤ r then .imm else .nest r i j
 | .box b => match pos ids b with
  | some k => .box (1000 + k)
  | none => if 1000 ≤ b then .imm else .box b
 | t => t
def finG (A : Acc) (ids : List Nat) (G : Gh) : Gh where
 κ := fun x => if 1000 ≤ x then (match A.nw[x - 1000]? with
  | some (some r, _) => G.κ r
  | some (none, R) => ⟨none, 0, 0, R.e.length⟩
  | none => G.κ x) else G.κ x
 β := fun x => if 1000 ≤ x then (match ids[x - 1000]? with
  | some b => G.β b
  | none => G.β x) else G.β x
 who := fun b => fFin A ids (G.who b)
 w := G.w
variable {A : Acc} {ids : List Nat}
theorem lvl_fin {x : Nat} {t : Tag} (h : lvl x t) : lvl x (fFin A ids t) := by
 cases t with
 | row r => exact h.elim
 | box b => exact h.elim
 | nest r i j =>
  simp only [fFin]
  split
  ·split
   ·exact h
   ·trivial
  ·split
   ·trivial
   ·exact h
 | _ => exact h
theorem finκ_old {r : Nat} (h : r < 1000) : (finG A ids G).κ r = G.κ r := by simp only [finG]; rw [if_neg (by omega)]
theorem finβ_old {r : Nat} (h : r < 1000) : (finG A ids G).β r = G.β r := by simp only [finG]; rw [if_neg (by omega)]
theorem finκ_new {k r : Nat} {R : Row} (h : A.nw[k]? = some (some r, R)) : (finG A ids G).κ (1000 + k) = G.κ r := by
 simp only [finG]; rw [if_pos (by omega), show 1000 + k - 1000 = k by omega, h]
theorem finκ_nil {k : Nat} {R : Row} (h : A.nw[k]? = some (none, R)) : (finG A ids G).κ (1000 + k) = ⟨none, 0, 0, R.e.length⟩ := by
 simp only [finG]; rw [if_pos (by omega), show 1000 + k - 1000 = k by omega, h]
theorem finβ_new {k b : Nat} (h : ids[k]? = some b) : (finG A ids G).β (1000 + k) = G.β b := by
 simp only [finG]; rw [if_pos (by omega), show 1000 + k - 1000 = k by omega, h]
theorem IntsV.fin {x y : Nat} (hxy : x = y ∨ (x = 2)) {k : IntKind} {xs : List Int} {v : Value} (hv : IntsV G x k xs v) : IntsV (finG A ids G) y k xs v := by
 have : IntsV (finG A ids G) x k xs v := by
  obtain ⟨B, cap, rfl, hc, hv⟩ := hv
  refine ⟨B, cap, rfl, hc, ?_⟩
  rcases hv with hv | ⟨g, b, rfl, hl, hv⟩
  ·exact .inl hv
  ·exact .inr ⟨g, b, rfl, lvl_fin hl, hv⟩
 exact IntsV.lower (hxy.imp id (fun h => by omega)) this
theorem Blk.fin {t : Tag} {h : Hd} {cells : List Value} (hb : Blk G t h cells) : Blk (finG A ids G) (fFin A ids t) h cells := by
 obtain ⟨h1, h2, h3, hb⟩ := hb
 refine ⟨h1, h2, h3, ?_⟩
 cases hg : h.g with
 | none => rw [hg] at hb; exact hb
 | some g => rw [hg] at hb; obtain ⟨hw, hb⟩ := hb; exact ⟨by show fFin A ids (G.who g) = _; rw [hw], hb⟩
/-- what is asked -/
structure FinOk1 (A : Acc) (ids : List Nat) : Prop where
 nd : (A.nw.filterMap (·.1)).Nodup
 sh : ∀ r ∈ A.sh, r ∉ A.nw.filterMap (·.1)
 idn : ids.Nodup
 idb : ∀ b ∈ ids, 1000 ≤ b
theorem srcAt_none (h : FinOk1 A ids) {r : Nat} (hr : r ∉ A.nw.filterMap (·.1)) : srcAt A.nw 0 r = none := by
 cases hs : srcAt A.nw 0 r with
 | none => rfl
 | some p =>
  obtain ⟨m, _, hm⟩ := srcAt_mem hs
  exact absurd ((List.mem_filterMap (f := fun x : Option Nat × Row => x.1)).2 ⟨_, List.mem_of_getElem? hm, rfl⟩) hr
theorem IntsV.le1 {x : Nat} (hx : 1 ≤ x) {k : IntKind} {xs : List Int} {v : Value} (h : IntsV G x k xs v) : IntsV G 1 k xs v := by
 obtain ⟨B, cap, rfl, hc, hv⟩ := h
 refine ⟨B, cap, rfl, hc, ?_⟩
 rcases hv with hv | ⟨g, b, rfl, hl, hv⟩
 ·exact .inl hv
 ·refine .inr ⟨g, b, rfl, ?_, hv⟩
  cases ht : G.who g <;> rw [ht] at hl <;> simp only [lvl] at hl ⊢ <;> omega
/-- a part of a row that is told -/
theorem row_told (h : FinOk1 A ids) {act : Act} (hG : Ok G st act) {x r b n cap : Nat} {R : Row} {B : Option Addr} (hx : x = 1 ∨ x = 2) (hR : aget st.rows r = some R) (hl : R.live ≤ 1) (hm : 1000 ≤ r ∨ (R.live = 1 ∧ (R.eu = false ∨ nested R.e = false))) (hs : r ∈ A.sh)
 (hbn : b + n ≤ R.q.len) (hcap : n ≤ cap) (hA : n = 0 ∨ ∃ g, (G.κ r).g = some g ∧ B = some ⟨g, b * R.e.length, none⟩) : TrV (finG A ids G) x x R.e (R.q.sub b n) (.slice B n cap) := by
 have hsrc := srcAt_none h (h.sh r hs)
 obtain ⟨h1, h2, h3, h4, h5, h6, h7⟩ := hG.rows r R hR
 obtain ⟨cells, hb, he⟩ := h6 hl
 refine ⟨B, cap, by rw [Sq.len_sub _ _ _ hbn], ⟨by rw [Sq.fits_sub]; exact h3, by rw [Sq.len_sub _ _ _ hbn]; exact hcap⟩, ?_⟩
 rw [Sq.len_sub _ _ _ hbn]
 rcases hA with hA | ⟨g, hg, rfl⟩
 ·exact .inl hA
 ·have hw : G.who g = rtag r R.live := by have := hb.2.2.2; rw [hg] at this; exact this.1
  have himm : fFin A ids (rtag r R.live) = .imm := by
   rcases hm with hm | ⟨hm, _⟩
   ·unfold rtag; split
    ·simp only [fFin, hsrc]; rw [if_pos hm]
    ·rfl
   ·rw [hm]; rfl
  refine .inr ⟨g, _, rfl, by show lvl x (fFin A ids (G.who g)); rw [hw, himm]; trivial, ?_⟩
  have hcell : ∀ m u, (fun k => cells[b * R.e.length + k]?) m = some u → (fun m => (finG A ids G).w.cell? ⟨g, b * R.e.length + m, none⟩) m = some u := fun m u hu => by
   show G.w.cell? _ = _
   exact hb.cell hg hu
  cases hne : nested R.e with
  | false => exact ElsV.flat hne ((he.sub b n hbn).mono (fun _ _ _ _ _ h => h) hcell)
  | true =>
   refine (he.sub b n hbn).mono (fun i j k xs v hh => ?_) hcell
   cases hE : R.eu with
   | false => rw [hE] at hh; exact IntsV.fin (.inr rfl) hh
   | true =>
    rw [hE] at hh
    have hr : 1000 ≤ r := by
     rcases hm with hm | ⟨_, hm⟩
     ·exact hm
     ·rcases hm with hm | hm
      ·rw [hE] at hm; cases hm
      ·rw [hne] at hm; cases hm
    obtain ⟨h0, a1, a2, a3⟩ := hh
    have := a3.fin (A := A) (ids := ids)
    rw [show fFin A ids (.nest r (b + i) j) = .imm by simp only [fFin, hsrc]; rw [if_pos hr]] at this
    exact OwnV.ints (t := .imm) trivial ⟨h0, a1, a2, this⟩
/-- a cell that is handed back -/
theorem OutC.ok (h : FinOk1 A ids) {act : Act} (hG : Ok G st act) {c c' : C} {v : Value} (ho : OutC st A c c') (hv : RV G c v) : RV (finG A ids G) c' v := by
 cases ho with
 | int k n => exact hv
 | bool b => exact hv
 | str s => exact hv
 | told y e q hy =>
  obtain ⟨B, cap, rfl, hf, hv⟩ := hv
  refine ⟨B, cap, rfl, hf, ?_⟩
  rcases hv with hv | ⟨g, b, rfl, hl, hv⟩
  ·exact .inl hv
  ·refine .inr ⟨g, b, rfl, lvl_fin hl, ?_⟩
   rcases hy with rfl | hy
   ·exact hv.mono (fun i j k xs v hh => IntsV.fin (.inl rfl) hh) (fun _ _ h => h)
   ·exact ElsV.flat hy hv
 | weak x y e q hx hy =>
  obtain ⟨B, cap, rfl, hf, hv⟩ := hv
  refine ⟨B, cap, rfl, hf, ?_⟩
  rcases hv with hv | ⟨g, b, rfl, hl, hv⟩
  ·exact .inl hv
  ·refine .inr ⟨g, b, rfl, ?_, hv.mono (fun i j k xs v hh => IntsV.le1 hy (IntsV.fin (.inl rfl) hh)) (fun _ _ h => h)⟩
   have := lvl_fin (A := A) (ids := ids) hl
   show lvl 1 (fFin A ids (G.who g))
   cases ht : fFin A ids (G.who g) <;> rw [ht] at this <;> simp only [lvl] at this ⊢ <;> omega
 | nil x e hx hf =>
  have hv : v = .slice none 0 0 := hv
  exact ⟨none, 0, by rw [hv, Sq.len_nil], ⟨hf, by rw [Sq.len_nil]; exact Nat.le_refl _⟩, .inl (Sq.len_nil e)⟩
 | nilnew e b k hf hk =>
  have hv : v = .slice none 0 0 := hv
  show v = ((finG A ids G).κ (1000 + k)).val
  rw [finκ_nil hk, hv]; rfl
 | share x r R hx hR hl hm hs =>
  have hv : v = (G.κ r).val := hv
  have hrow := hG.rows r R hR
  rw [hv, Hd.val, ← hrow.1]
  have := row_told h hG (b := 0) (n := R.q.len) (cap := (G.κ r).cap) (B := (G.κ r).addr 0) hx hR hl hm hs (by omega) (by have := hrow.1; have := hrow.2.2.2.2.1; omega) (by
   by_cases h0 : R.q.len = 0
   ·exact .inl h0
   ·right
    cases hg : (G.κ r).g with
    | none => have := hrow.2.2.2.1 hg; have := hrow.1; have := hrow.2.2.2.2.1; omega
    | some g => exact ⟨g, rfl, by simp [Hd.addr, hg]⟩)
  rw [Sq.sub_all] at this
  exact this
 | shareO x r b n R hx hR hl hm hs =>
  obtain ⟨B, cap, rfl, ⟨h1, h2⟩, h3, _⟩ := hv
  have hrow := hG.rows r R hR
  refine row_told h hG hx hR hl hm hs (by have := hrow.1; omega) h2 ?_
  rcases h3 with h3 | ⟨g, hg, h3⟩
  ·exact .inl h3
  ·exact .inr ⟨g, hg, by rw [h3, hrow.2.1]⟩
 | new r R b k hR hl hk =>
  show v = ((finG A ids G).κ (1000 + k)).val
  rw [finκ_new hk]; exact hv
 | old r hr => show v = ((finG A ids G).κ r).val; rw [finκ_old hr]; exact hv
 | bp b p hb => show v = _; rw [finβ_old hb]; exact hv
 | bpd b p => trivial
 | fn f caps hc =>
  have hv : v = _ := hv
  show v = _
  rw [hv]
  congr 2
  apply List.map_congr_left
  intro b hb
  rw [finβ_old (hc b hb)]
theorem OutC.isTold {c c' : C} (ho : OutC st A c c') (nb : Nat) : c'.told A.nw.length nb = true := by
 cases ho with
 | told y e q hy => rfl
 | weak x y e q hx hy => rfl
 | nil x e hx hf => rcases hx with rfl | rfl <;> rfl
 | nilnew e b k hf hk => have := (List.getElem?_eq_some_iff.1 hk).1; exact Nat.ble_eq_true_of_le (by omega)
 | share x r R hx hR hl hm hs => rcases hx with rfl | rfl <;> rfl
 | shareO x r b n R hx hR hl hm hs => rcases hx with rfl | rfl <;> rfl
 | new r R b k hR hl hk => have := (List.getElem?_eq_some_iff.1 hk).1; exact Nat.ble_eq_true_of_le (by omega)
 | old r hr => exact Nat.ble_eq_true_of_le (by omega)
 | bp b p hb => exact Nat.ble_eq_true_of_le (by omega)
 | fn f caps hc => exact List.all_eq_true.2 fun b hb => Nat.ble_eq_true_of_le (by have := hc b hb; omega)
 | _ => rfl
theorem OutL.ok (h : FinOk1 A ids) {act : Act} (hG : Ok G st act) {cs cs' : List C} {vs : List Value} (ho : OutL st A cs cs') (hv : RVs G cs vs) : RVs (finG A ids G) cs' vs := by
 refine ⟨by rw [ho.1]; exact hv.1, fun j c' hj => ?_⟩
 have hlt : j < cs.length := by have := (List.getElem?_eq_some_iff.1 hj).1; have := ho.1; omega
 obtain ⟨c1, h1, h2⟩ := ho.2 j _ (List.getElem?_eq_getElem hlt)
 rw [hj] at h1
 cases h1
 obtain ⟨v, h3, h4, h5⟩ := hv.2 j _ (List.getElem?_eq_getElem hlt)
 exact ⟨v, h3, h2.ok h hG h4, h5⟩
theorem OutL.isTold {cs cs' : List C} (ho : OutL st A cs cs') (nb : Nat) : ∀ c ∈ cs', c.told A.nw.length nb = true := by
 intro c hc
 obtain ⟨j, hj, rfl⟩ := List.mem_iff_getElem.1 hc
 have hlt : j < cs.length := by have := ho.1; omega
 obtain ⟨c1, h1, h2⟩ := ho.2 j _ (List.getElem?_eq_getElem hlt)
 rw [List.getElem?_eq_getElem hj] at h1
 rw [Option.some.inj h1]
 exact h2.isTold nb
theorem V1V.out (h : FinOk1 A ids) {act : Act} (hG : Ok G st act) {x : V1} {cs' : List C} {v : Value} (ho : OutL st A x.cs cs') (hv : V1V G x v) : V1V (finG A ids G) ⟨x.agg, cs'⟩ v := by
 obtain ⟨agg, cs⟩ := x
 cases agg with
 | true => obtain ⟨vs, rfl, hr⟩ := hv; exact ⟨vs, rfl, ho.ok h hG hr⟩
 | false =>
  obtain ⟨c, hc, hr⟩ := hv
  simp only at hc
  subst hc
  obtain ⟨c', h1, h2⟩ := ho.2 0 c rfl
  refine ⟨c', ?_, h2.ok h hG hr⟩
  have := ho.1
  match cs', this, h1 with
  | [x], _, h1 => cases h1; rfl
end Go.Tv
set_option autoImplicit false
namespace Go.Tv
open Go
variable [Env]
variable {P : Program} {G G' : Gh} {X : Ctx} {F U : Nat → Prop} {kl : Bool} {o : Oper} {st : St} {A : Acc} {ids : List Nat}
/-- an entry of what is new -/
def NwOk (st : St) (p : Option Nat × Row) : Prop :=
 (p.1 = none ∧ ∃ e b, (Sq.nil e).fits e = true ∧ p.2 = ⟨e, Sq.nil e, b, 0, none⟩) ∨ ∃ r R b, p.1 = some r ∧ aget st.rows r = some R ∧ R.live = 0 ∧ p.2 = { R with eu := R.eu && !(b && nested R.e) }
def AccOk (st : St) (a : Acc) : Prop := ∀ p ∈ a.nw, NwOk st p
theorem AccOk.new {a : Acc} {src : Option Nat} {R : Row} (h : AccOk st a) (hn : NwOk st (src, R)) : AccOk st (a.new src R).2 := fun p hp => by
 rcases List.mem_append.1 hp with hp | hp
 ·exact h p hp
 ·rw [List.mem_singleton.1 hp]; exact hn
theorem outC_acc {bt : Bt} {we : Bool} {p : Nat} {c c' : C} {a a' : Acc} (h : outC st bt we p c a = some (c', a')) (ha : AccOk st a) : AccOk st a' := by
 cases c with
 | int k n => cases h; exact ha
 | bool b => cases h; exact ha
 | str s => cases h; exact ha
 | nil =>
  simp only [outC] at h
  split at h
  ·rename_i e eb
   cases hf : (Sq.nil e).fits e with
   | false => rw [hf] at h; cases h
   | true =>
    rw [hf] at h
    simp only [Bool.not_true, cond_false] at h
    cases h0 : Nat.beq p 0 with
    | true => rw [h0] at h; cases h; exact ha
    | false =>
     rw [h0] at h
     simp only [cond_false] at h
     cases h4 : Nat.beq p 4 with
     | true => rw [h4] at h; cases h; exact ha
     | false =>
      rw [h4] at h
      simp only [cond_false] at h
      cases h1 : (Nat.beq p 1 || Nat.beq p 3) with
      | false => rw [h1] at h; cases h
      | true =>
       rw [h1] at h
       simp only [cond_true, Option.some.injEq] at h
       have := ha.new (src := none) (R := ⟨e, Sq.nil e, !(we && nested e), 0, none⟩) (.inl ⟨rfl, e, _, hf, rfl⟩)
       rw [h] at this
       exact this
  ·cases h
 | tr x y e q =>
  simp only [outC] at h
  cases h0 : Nat.beq p 0 with
  | true =>
   rw [h0] at h
   simp only [cond_true] at h
   cases hb : (Nat.beq x 2 && (Nat.beq y 2 || !nested e)) with
   | false => rw [hb] at h; cases h
   | true => rw [hb] at h; cases h; exact ha
  | false =>
   rw [h0] at h
   simp only [cond_false] at h
   cases hb : (Nat.beq p 4 && Nat.ble 1 x && Nat.ble 1 y) with
   | false => rw [hb] at h; cases h
   | true => rw [hb] at h; cases h; exact ha
 | ow r =>
  simp only [outC] at h
  split at h
  ·rename_i R hR
   cases h0 : Nat.beq p 0 with
   | true =>
    rw [h0] at h
    simp only [cond_true] at h
    cases hb : mayShare r R with
    | false => rw [hb] at h; cases h
    | true => rw [hb] at h; cases h; exact ha
   | false =>
    rw [h0] at h
    simp only [cond_false] at h
    cases h4 : Nat.beq p 4 with
    | true =>
     rw [h4] at h
     simp only [cond_true] at h
     cases hb : (Nat.ble 1000 r && Nat.ble R.live 1) with
     | false => rw [hb] at h; cases h
     | true => rw [hb] at h; cases h; exact ha
    | false =>
     rw [h4] at h
     simp only [cond_false] at h
     cases h1 : (Nat.beq p 1 || Nat.beq p 3) with
     | true =>
      rw [h1] at h
      simp only [cond_true] at h
      cases hb : (Nat.beq R.live 0 && (Nat.beq p 3 || Nat.ble 1000 r)) with
      | false => rw [hb] at h; cases h
      | true =>
       rw [hb] at h
       simp only [cond_true, Option.some.injEq] at h
       rw [Bool.and_eq_true] at hb
       have := ha.new (src := some r) (R := { R with eu := R.eu && !(we && nested R.e) }) (.inr ⟨r, R, we, rfl, hR, Nat.eq_of_beq_eq_true hb.1, rfl⟩)
       rw [h] at this
       exact this
     | false =>
      rw [h1] at h
      simp only [cond_false] at h
      cases hb : Nat.ble (r + 1) 1000 with
      | false => rw [hb] at h; cases h
      | true => rw [hb] at h; cases h; exact ha
  ·cases h
 | os r b n =>
  simp only [outC] at h
  split at h
  ·rename_i R hR
   cases h0 : Nat.beq p 0 with
   | true =>
    rw [h0] at h
    simp only [cond_true] at h
    cases hb : mayShare r R with
    | false => rw [hb] at h; cases h
    | true => rw [hb] at h; cases h; exact ha
   | false =>
    rw [h0] at h
    simp only [cond_false] at h
    cases h4 : Nat.beq p 4 with
    | true =>
     rw [h4] at h
     simp only [cond_true] at h
     cases hb : (Nat.ble 1000 r && Nat.ble R.live 1) with
     | false => rw [hb] at h; cases h
     | true => rw [hb] at h; cases h; exact ha
    | false => rw [h4] at h; cases h
  ·cases h
 | bp b q =>
  simp only [outC] at h
  cases hb : Nat.ble (b + 1) 1000 with
  | true => rw [hb] at h; cases h; exact ha
  | false =>
   rw [hb] at h
   simp only [cond_false] at h
   cases h5 : Nat.beq p 5 with
   | true => rw [h5] at h; cases h; exact ha
   | false => rw [h5] at h; cases h
 | fn f caps =>
  simp only [outC] at h
  cases hb : (caps.all fun b => Nat.ble (b + 1) 1000) with
  | false => rw [hb] at h; cases h
  | true => rw [hb] at h; cases h; exact ha
 | _ => cases h
theorem outCs_acc : ∀ {ts : List Bt} {ps : List Nat} {cs cs' : List C} {a a' : Acc}, outCs st ts ps cs a = some (cs', a') → AccOk st a → AccOk st a'
 | [], ps, [], cs', a, a', h, ha => by cases h; exact ha
 | [], ps, _ :: _, cs', a, a', h, _ => by cases h
 | _ :: _, ps, [], cs', a, a', h, _ => by cases h
 | t :: ts, ps, c :: cs, cs', a, a', h, ha => by
  simp only [outCs] at h
  split at h
  ·rename_i r a1 h1
   split at h
   ·rename_i rs a2 h2
    cases h
    exact outCs_acc h2 (outC_acc h1 ha)
   ·cases h
  ·cases h
/-- a result, as it is handed back -/
inductive OutR (Γ : List (Nat × TI)) (nb : List Nat) (st : St) (A : Acc) (r : ResultVar × TypeId) : V1 → Prop
 | box (t k : Nat) (h : r.1 = .tmp t) (hk : pos nb t = some k) : OutR Γ nb st A r ⟨false, [.bp (1000 + k) 0]⟩
 | val (x : V1) (cs' : List C) (h : resV Γ st r.1 r.2 = some x) (ho : OutL st A x.cs cs') : OutR Γ nb st A r ⟨x.agg, cs'⟩
theorem OutR.mono {Γ : List (Nat × TI)} {nb : List Nat} {A A' : Acc} {r : ResultVar × TypeId} {v : V1} (hl : A.le A') (h : OutR Γ nb st A r v) : OutR Γ nb st A' r v := by
 cases h with
 | box t k h hk => exact .box t k h hk
 | val x cs' h ho => exact .val x cs' h (ho.mono hl)
theorem finVs_ok {Γ : List (Nat × TI)} {nb : List Nat} : ∀ {rs : List (ResultVar × TypeId)} {ps : List (List Nat)} {a a' : Acc} {vs : List V1}, finVs Γ nb st rs ps a = some (vs, a') →
 a.le a' ∧ (AccOk st a → AccOk st a') ∧ vs.length = rs.length ∧ ∀ (j : Nat) (r : ResultVar × TypeId), rs[j]? = some r → ∃ v, vs[j]? = some v ∧ OutR Γ nb st a' r v
 | [], ps, a, a', vs, h => by cases h; exact ⟨.refl _, id, rfl, fun j r h => by simp at h⟩
 | r :: rs, ps, a, a', vs, h => by
  simp only [finVs] at h
  split at h
  ·rename_i v a1 h1
   split at h
   ·rename_i l a2 h2
    cases h
    obtain ⟨b1, b2, b3, b4⟩ := finVs_ok h2
    have key : a.le a1 ∧ (AccOk st a → AccOk st a1) ∧ OutR Γ nb st a1 r v := by
     split at h1
     ·rename_i k hk
      cases h1
      refine ⟨.refl _, id, ?_⟩
      split at hk
      ·rename_i t ht; exact .box t k ht hk
      ·cases hk
     ·split at h1
      ·rename_i x ti hx hti
       split at h1
       ·rename_i cs a3 hcs
        cases h1
        obtain ⟨c1, c2⟩ := outCs_ok hcs
        exact ⟨c1, outCs_acc hcs, .val x cs hx c2⟩
       ·cases h1
      ·cases h1
    obtain ⟨c1, c2, c3⟩ := key
    refine ⟨c1.trans b1, fun h => b2 (c2 h), by simp [b3], fun j r' hj => ?_⟩
    cases j with
    | zero => cases hj; exact ⟨v, rfl, c3.mono b1⟩
    | succ j => exact b4 j r' hj
   ·cases h
  ·cases h
theorem finBoxes_ok : ∀ {ps : List (List Bt × List Nat)} {j0 : Nat} {a a' : Acc} {l : List (List C)}, finBoxes st j0 ps a = some (l, a') →
 a.le a' ∧ (AccOk st a → AccOk st a') ∧ l.length = ps.length ∧ ∀ (j : Nat) (cs' : List C), l[j]? = some cs' → ∃ cs, aget st.boxes (j0 + j) = some cs ∧ OutL st a' cs cs'
 | [], j0, a, a', l, h => by cases h; exact ⟨.refl _, id, rfl, fun j r h => by simp at h⟩
 | p :: ps, j0, a, a', l, h => by
  simp only [finBoxes] at h
  split at h
  ·rename_i cs hcs
   split at h
   ·rename_i l1 a1 h1
    split at h
    ·rename_i ls a2 h2
     cases h
     obtain ⟨b1, b2, b3, b4⟩ := finBoxes_ok h2
     obtain ⟨c1, c2⟩ := outCs_ok h1
     refine ⟨c1.trans b1, fun h => b2 (outCs_acc h1 h), by simp [b3], fun j cs' hj => ?_⟩
     cases j with
     | zero => cases hj; exact ⟨cs, hcs, c2.mono b1⟩
     | succ j => rw [show j0 + (j + 1) = j0 + 1 + j by omega]; exact b4 j cs' hj
    ·cases h
   ·cases h
  ·cases h
theorem finNb_ok : ∀ {ps : List (Nat × List Bt × List Nat)} {a a' : Acc} {l : List (List C)} {ids : List Nat}, finNb st ps a = some (l, ids, a') →
 a.le a' ∧ (AccOk st a → AccOk st a') ∧ l.length = ps.length ∧ ids.length = ps.length ∧ (∀ b ∈ ids, 1000 ≤ b) ∧ ∀ (j : Nat) p, ps[j]? = some p → ∃ b cs cs', ids[j]? = some b ∧ l[j]? = some cs' ∧ ev1 st (.tmp p.1) = .bp b 0 ∧ aget st.boxes b = some cs ∧ OutL st a' cs cs'
 | [], a, a', l, ids, h => by cases h; exact ⟨.refl _, id, rfl, rfl, fun b h => (by cases h), fun j r h => by simp at h⟩
 | p :: ps, a, a', l, ids, h => by
  simp only [finNb] at h
  split at h
  ·rename_i b hb
   split at h
   ·rename_i cs hcs
    split at h
    ·rename_i l1 a1 h1
     split at h
     ·rename_i ls bs a2 h2
      cases hbl : Nat.ble 1000 b with
      | false => rw [hbl] at h; cases h
      | true =>
       rw [hbl] at h
       cases h
       obtain ⟨b1, b2, b3, b4, b5, b6⟩ := finNb_ok h2
       obtain ⟨c1, c2⟩ := outCs_ok h1
       refine ⟨c1.trans b1, fun h => b2 (outCs_acc h1 h), by simp [b3], by simp [b4], fun b' hb' => ?_, fun j p' hj => ?_⟩
       ·rcases List.mem_cons.1 hb' with rfl | hb'
        ·exact ble_le hbl
        ·exact b5 b' hb'
       ·cases j with
        | zero => cases hj; exact ⟨b, cs, l1, rfl, rfl, hb, hcs, c2.mono b1⟩
        | succ j => exact b6 j p' hj
     ·cases h
    ·cases h
   ·cases h
  ·cases h
theorem finRows_get : ∀ {ks : List Bool} {j0 j : Nat} {R : Row}, (finRows st j0 ks)[j]? = some (some R) → ks[j]? = some true ∧ ∃ R0, aget st.rows (j0 + j) = some R0 ∧ R = R0.shut
 | [], j0, j, R, h => by simp [finRows] at h
 | k :: ks, j0, j, R, h => by
  simp only [finRows] at h
  cases j with
  | zero =>
   simp only [List.getElem?_cons_zero, Option.some.injEq] at h
   cases k with
   | false => cases h
   | true =>
    simp only [cond_true, Option.map_eq_some_iff] at h
    obtain ⟨R0, a, rfl⟩ := h
    exact ⟨rfl, R0, a, rfl⟩
  | succ j => rw [show j0 + (j + 1) = j0 + 1 + j by omega]; exact finRows_get h
/-- a row that came in and is told behind the call -/
theorem RowOk.kept (h : FinOk1 A ids) {r : Nat} {R : Row} (hr : r < 1000) (hn : r ∉ A.nw.filterMap (·.1)) (hR : RowOk G r R) : RowOk (finG A ids G) r R.shut ∧ R.shut.live ≠ 3 := by
 have hs3 : R.shut.live ≠ 3 ∧ (R.shut.live ≤ 1 → R.live ≤ 1 ∧ R.shut.live = R.live) := by
  simp only [Row.shut]
  cases h3 : Nat.beq R.live 3 with
  | true => exact ⟨fun h => absurd (show (2 : Nat) = 3 from h) (by decide), fun h => absurd (show (2 : Nat) ≤ 1 from h) (by decide)⟩
  | false => exact ⟨fun h => (by rw [show R.live = 3 from h] at h3; cases h3), fun h => ⟨h, rfl⟩⟩
 have hsrc := srcAt_none h hn
 obtain ⟨h1, h2, h3, h4, h5, h6, h7⟩ := hR
 have hk : (finG A ids G).κ r = G.κ r := finκ_old hr
 refine ⟨⟨by rw [hk]; exact h1, by rw [hk]; exact h2, h3, by rw [hk]; exact h4, by rw [hk]; exact h5, fun hl => ?_, fun h => absurd h hs3.1⟩, hs3.1⟩
 obtain ⟨hl, hle⟩ := hs3.2 hl
 obtain ⟨cells, hb, he⟩ := h6 hl
 rw [hk, hle]
 refine ⟨cells, ?_, he.mono (fun i j k xs v hh => ?_) (fun _ _ h => h)⟩
 ·have := hb.fin (A := A) (ids := ids)
  rw [show fFin A ids (rtag r R.live) = rtag r R.live by
   unfold rtag; split
   ·simp only [fFin, hsrc]; rw [if_neg (by omega)]
   ·rfl] at this
  exact this
 ·show NN _ r R.eu i j k xs v
  cases hE : R.eu with
  | false => rw [hE] at hh; exact IntsV.fin (.inl rfl) hh
  | true =>
   rw [hE] at hh
   obtain ⟨h0, a1, a2, a3⟩ := hh
   have := a3.fin (A := A) (ids := ids)
   rw [show fFin A ids (.nest r i j) = .nest r i j by simp only [fFin, hsrc]; rw [if_neg (by omega)]] at this
   exact ⟨h0, a1, a2, this⟩
/-- a row that is handed back -/
theorem RowOk.newOut (h : FinOk1 A ids) {act : Act} (hG : Ok G st act) (ha : AccOk st A) {k : Nat} {p : Option Nat × Row} (hk : A.nw[k]? = some p) : RowOk (finG A ids G) (1000 + k) p.2 ∧ p.2.live = 0 := by
 obtain ⟨src, R'⟩ := p
 rcases ha _ (List.mem_of_getElem? hk) with ⟨hs, e, b, hf, hp⟩ | ⟨r, R, b, hs, hR, hl, hp⟩
 ·simp only at hs hp
  subst hs
  subst hp
  have hκ := finκ_nil (A := A) (ids := ids) (G := G) hk
  refine ⟨⟨by rw [hκ]; exact Sq.len_nil e, by rw [hκ], hf, fun _ => by rw [hκ], by rw [hκ]; exact Nat.le_refl _, fun _ => ⟨[], ?_, ?_⟩, fun h => by cases h⟩, rfl⟩
  ·rw [hκ]; exact ⟨by simp, Nat.le_refl _, by simp [maxLen], rfl⟩
  ·intro i j t hi _
   have hi : i < (Sq.nil e).len := hi
   rw [Sq.len_nil] at hi; omega
 ·simp only at hs hp
  subst hs
  subst hp
  have hκ := finκ_new (A := A) (ids := ids) (G := G) hk
  have hsrc := srcAt_of (k0 := 0) h.nd hk
  rw [Nat.zero_add] at hsrc
  obtain ⟨h1, h2, h3, h4, h5, h6, h7⟩ := hG.rows r R hR
  refine ⟨⟨by rw [hκ]; exact h1, by rw [hκ]; exact h2, h3, by rw [hκ]; exact h4, by rw [hκ]; exact h5, fun _ => ?_, fun h => absurd (hl.symm.trans h) (by decide)⟩, hl⟩
  obtain ⟨cells, hb, he⟩ := h6 (by omega)
  rw [hκ]
  simp only
  rw [hl] at hb ⊢
  refine ⟨cells, ?_, ?_⟩
  ·have := hb.fin (A := A) (ids := ids)
   rw [show fFin A ids (rtag r 0) = .row (1000 + k) by show fFin A ids (.row r) = _; simp only [fFin, hsrc]] at this
   exact this
  ·cases hn : nested R.e with
   | false => exact ElsV.flat hn he
   | true =>
    refine he.mono (fun i j k' xs v hh => ?_) (fun _ _ h => h)
    cases hE : R.eu with
    | false => rw [hE] at hh; exact IntsV.fin (.inl rfl) hh
    | true =>
     rw [hE] at hh
     obtain ⟨h0, a1, a2, a3⟩ := hh
     have := a3.fin (A := A) (ids := ids)
     simp only [fFin, hsrc, hE, hn, Bool.and_true, Bool.true_and] at this
     cases b with
     | true => exact OwnV.ints (x := 2) (t := .imm) trivial ⟨h0, a1, a2, this⟩
     | false => exact ⟨h0, a1, a2, this⟩
theorem BoxOk.out (h : FinOk1 A ids) {act : Act} (hG : Ok G st act) {b k : Nat} {cs cs' : List C} (hb : aget st.boxes b = some cs) (ho : OutL st A cs cs') (hk : (b = k ∧ b < 1000) ∨ ∃ m, ids[m]? = some b ∧ k = 1000 + m) : BoxOk (finG A ids G) k cs' := by
 obtain ⟨hw, cur, te, hh, hr⟩ := hG.boxes b cs hb
 rcases hk with ⟨rfl, hlt⟩ | ⟨m, hm, rfl⟩
 ·refine ⟨?_, cur, te, by rw [finβ_old hlt]; exact hh, ho.ok h hG hr⟩
  rw [finβ_old hlt]
  show fFin A ids (G.who (G.β b)) = _
  rw [hw]
  have : pos ids b = none := by
   cases hp : pos ids b with
   | none => rfl
   | some k => have := h.idb b (List.mem_of_getElem? (pos_some hp)); omega
  simp only [fFin, this]
  rw [if_neg (by omega)]
 ·refine ⟨?_, cur, te, by rw [finβ_new hm]; exact hh, ho.ok h hG hr⟩
  rw [finβ_new hm]
  show fFin A ids (G.who (G.β b)) = _
  rw [hw]
  simp only [fFin, pos_of h.idn hm]
end Go.Tv
set_option autoImplicit false
namespace Go.Tv
open Go
variable [Env]
variable {P : Program} {G G' : Gh} {X : Ctx} {F U : Nat → Prop} {kl : Bool} {o : Oper} {st : St} {A : Acc} {ids : List Nat}
structure FinOk (P : Program) (Fi : Fin) (fn : Func) : Prop where
 Γ : ∀ t ti, aget Fi.Γ t = some ti → TIok P t ti
 res : Fi.res.map (·.1) = fn.results.toList
 cell : ∀ p ∈ Fi.res, ∀ a t, p.1 = .cell a t → t = p.2
 rk : Fi.rk.length ≤ 1000
 bx : Fi.bx.length ≤ 1000
def resVal : List Value → Value
 | [u] => u
 | us => .tuple us.toArray
def tvOf : List V1 → TV
 | [v] => .v v
 | vs => .tp vs
/-- one result's value -/
def resM (tmps : Array Value) : ResultVar → Sem Value
 | .tmp t => pure (tmps.getD t undef)
 | .cell a t => do loadVar t (← asAddr (tmps.getD a undef))
theorem finR_inv {Fi : Fin} {res : Res} (h : finR Fi st = some res) : ∃ (A : Acc) (ids : List Nat) (vs : List V1) (bs nbs : List (List C)), res = ⟨vs, finRows st 0 Fi.rk, A.nw.map (·.2), bs, nbs⟩ ∧ FinOk1 A ids ∧ AccOk st A ∧
 (∀ r ∈ A.nw.filterMap (·.1), Fi.rk.getD r false = false) ∧ vs.length = Fi.res.length ∧ (∀ (j : Nat) (r : ResultVar × TypeId), Fi.res[j]? = some r → ∃ v, vs[j]? = some v ∧ OutR Fi.Γ (Fi.nb.map (·.1)) st A r v) ∧
 bs.length = Fi.bx.length ∧ (∀ (j : Nat) (cs' : List C), bs[j]? = some cs' → ∃ cs, aget st.boxes j = some cs ∧ OutL st A cs cs') ∧
 nbs.length = Fi.nb.length ∧ ids.length = Fi.nb.length ∧ (∀ (j : Nat) p, Fi.nb[j]? = some p → ∃ b cs cs', ids[j]? = some b ∧ nbs[j]? = some cs' ∧ ev1 st (.tmp p.1) = .bp b 0 ∧ aget st.boxes b = some cs ∧ OutL st A cs cs') := by
 unfold finR at h
 split at h
 ·rename_i v a1 h1
  split at h
  ·rename_i bs a2 h2
   split at h
   ·rename_i nbs ids a3 h3
    simp only at h
    cases hc : (nodup (a3.nw.filterMap (·.1)) && (a3.nw.filterMap (·.1)).all (fun r => !(Fi.rk.getD r false)) && a3.sh.all (fun r => !(a3.nw.filterMap (·.1)).any (Nat.beq r)) && nodup ids) with
    | false => rw [hc] at h; cases h
    | true =>
     rw [hc] at h
     simp only [cond_true, Option.some.injEq] at h
     simp only [Bool.and_eq_true] at hc
     obtain ⟨⟨⟨c1, c2⟩, c3⟩, c4⟩ := hc
     obtain ⟨b1, b2, b3, b4⟩ := finVs_ok h1
     obtain ⟨d1, d2, d3, d4⟩ := finBoxes_ok h2
     obtain ⟨e1, e2, e3, e4, e5, e6⟩ := finNb_ok h3
     refine ⟨a3, ids, v, bs, nbs, h.symm, ⟨nodup_iff.1 c1, fun r hr hm => ?_, nodup_iff.1 c4, e5⟩, e2 (d2 (b2 (fun p hp => by cases hp))), fun r hr => ?_, b3, fun j r hj => ?_, d3, fun j cs' hj => ?_, e3, e4, e6⟩
     ·have := List.all_eq_true.1 c3 r hr
      simp only [Bool.not_eq_true'] at this
      have := List.any_eq_false.1 this r hm
      simp at this
     ·have := List.all_eq_true.1 c2 r hr
      simpa using this
     ·obtain ⟨v, x1, x2⟩ := b4 j r hj
      exact ⟨v, x1, (x2.mono d1).mono e1⟩
     ·obtain ⟨cs, x1, x2⟩ := d4 j cs' hj
      rw [Nat.zero_add] at x1
      exact ⟨cs, x1, x2.mono e1⟩
   ·cases h
  ·cases h
 ·cases h
theorem fin_step : ∀ {G0 : Gh}, Stp X G0 G → (∀ b n, (G0.who b).owner = some n → n < 2000) → (kl = false → X.nk = true) → Step Uc Fc kl G0 (finG A ids G) := by
 intro G0 s ht hk
 have hf : ∀ t : Tag, t.owner = none → fFin A ids t = t := by intro t h; cases t <;> first | rfl | cases h
 refine ⟨s.os, s.tape, s.output, s.size, fun b hb hu => ?_, fun hkl b r i j hb hw => ?_, fun r hr => ?_, fun b hr => ?_⟩
 ·have hn : (G0.who b).owner = none := by
   cases ho : (G0.who b).owner with
   | none => rfl
   | some n => exact absurd (ht b n ho) (hu n ho)
  obtain ⟨h1, h2⟩ := s.blk b hb (fun n hn' => by rw [hn] at hn'; cases hn')
  refine ⟨h1, ?_⟩
  show fFin A ids (G.who b) = _
  rw [h2]; exact hf _ hn
 ·obtain ⟨h1, h2⟩ := s.nst (by rw [hk hkl]; rfl) b r i j hb hw
  exact ⟨h1, lvl_fin h2⟩
 ·have hr : ¬ 2000 ≤ 2 * r := hr
  rw [finκ_old (by omega)]; exact s.κ r hr
 ·have hr : ¬ 2000 ≤ 2 * b + 1 := hr
  rw [finβ_old (by omega)]; exact s.β b hr
theorem run_results {fn : Func} {tmps : Array Value} {w : World} {us : List Value} (hl : us.length = fn.results.size) (h : ∀ (j : Nat) (r : ResultVar), fn.results.toList[j]? = some r → ∃ u, us[j]? = some u ∧ (resM tmps r).run P w = .ok u w) :
 (results fn tmps).run P w = .ok (resVal us) w := by
 have hm : (fn.results.mapM (resM tmps)).run P w = .ok us.toArray w := by
  let g : ResultVar → Value := fun r => match (resM tmps r).run P w with | .ok u _ => u | _ => undef
  have hg : ∀ r ∈ fn.results.toList, (resM tmps r).run P w = .ok (g r) w := by
   intro r hr
   obtain ⟨j, hj, rfl⟩ := List.mem_iff_getElem.1 hr
   obtain ⟨u, _, hu⟩ := h j _ (List.getElem?_eq_getElem hj)
   simp only [g, hu]
  have := run_arrayMapM (P := P) (resM tmps) g w fn.results hg
  have hus : fn.results.map g = us.toArray := by
   apply Array.toList_inj.1
   rw [Array.toList_map]
   apply List.ext_getElem?
   intro j
   rw [List.getElem?_map]
   cases hj : fn.results.toList[j]? with
   | none =>
    have := List.getElem?_eq_none_iff.1 hj
    rw [List.getElem?_eq_none (by simpa [hl] using this)]; rfl
   | some r =>
    obtain ⟨u, h1, h2⟩ := h j r hj
    simp only [Option.map_some, g, h2]
    exact h1.symm
  rw [hus] at this
  exact this
 have e : results fn tmps = (do let vs ← fn.results.mapM (resM tmps); pure (if h : vs.size = 1 then vs[0] else .tuple vs)) := rfl
 rw [e]
 simp only [Sem.run_bind, hm, Result.andThen_ok]
 rcases us with _ | ⟨u, _ | ⟨v, l⟩⟩ <;> simp [resVal]
theorem resTV_ok {vs : List V1} {us : List Value} (hl : us.length = vs.length) (h : ∀ (j : Nat) (v : V1), vs[j]? = some v → ∃ u, us[j]? = some u ∧ V1V G v u) :
 TVV G (tvOf vs) (resVal us) := by
 rcases vs with _ | ⟨v, _ | ⟨v', l⟩⟩
 ·rcases us with _ | ⟨u, us⟩
  ·exact ⟨[], rfl, rfl, fun j x h => by simp at h⟩
  ·simp at hl
 ·rcases us with _ | ⟨u, _ | ⟨u', us⟩⟩
  ·simp at hl
  ·obtain ⟨u', e1, e2⟩ := h 0 v rfl; cases e1; exact e2
  ·simp at hl
 ·rcases us with _ | ⟨u, _ | ⟨u', us⟩⟩
  ·simp at hl
  ·simp at hl
  ·exact ⟨_, rfl, hl, h⟩
theorem finR_ok {Fi : Fin} {fn : Func} {res : Res} (hF : FinOk P Fi fn) (h : finR Fi st = some res) : res.told ∧ ∀ G act, Ok G st act → ∃ v G', (results fn act.tmps).run P G.w = .ok v G.w ∧ G'.w = G.w ∧ ResOk G' res v ∧
 ∀ {X : Ctx} {kl : Bool} {G0 : Gh}, Stp X G0 G → (∀ b n, (G0.who b).owner = some n → n < 2000) → (kl = false → X.nk = true) → Step Uc Fc kl G0 G' := by
 obtain ⟨A, ids, vs, bs, nbs, rfl, h1, h2, h3, h4, h5, h6, h7, h8, h9, h10⟩ := finR_inv h
 have hbsm : ∀ cs' ∈ bs, ∃ j cs, aget st.boxes j = some cs ∧ OutL st A cs cs' := fun cs' hm => by
  obtain ⟨j, hj, rfl⟩ := List.mem_iff_getElem.1 hm
  obtain ⟨cs, a, b⟩ := h7 j _ (List.getElem?_eq_getElem hj)
  exact ⟨j, cs, a, b⟩
 have hnbm : ∀ (j : Nat) cs', nbs[j]? = some cs' → ∃ b cs, ids[j]? = some b ∧ aget st.boxes b = some cs ∧ OutL st A cs cs' := fun j cs' hj => by
  have hlt : j < Fi.nb.length := by have := (List.getElem?_eq_some_iff.1 hj).1; omega
  obtain ⟨b, cs, cs2, a1, a2, _, a4, a5⟩ := h10 j _ (List.getElem?_eq_getElem hlt)
  rw [hj] at a2; cases a2
  exact ⟨b, cs, a1, a4, a5⟩
 refine ⟨⟨fun v hv c hc => ?_, fun b hb c hc => ?_, fun b hb c hc => ?_⟩, fun G act hG => ?_⟩
 ·have hv : v ∈ vs := hv
  obtain ⟨j, hj, hje⟩ := List.mem_iff_getElem.1 hv
  have hlt : j < Fi.res.length := by omega
  obtain ⟨v0, a1, a2⟩ := h5 j _ (List.getElem?_eq_getElem hlt)
  rw [List.getElem?_eq_getElem hj, hje] at a1
  have := Option.some.inj a1
  subst this
  simp only [List.length_map]
  cases a2 with
  | box t k h hk =>
   have hk' := pos_lt hk
   simp only [List.length_map] at hk'
   rw [List.mem_singleton.1 hc]
   exact Nat.ble_eq_true_of_le (by omega)
  | val x cs' hx ho => exact ho.isTold _ c hc
 ·obtain ⟨j, cs, _, ho⟩ := hbsm b hb
  simp only [List.length_map]
  exact ho.isTold _ c hc
 ·obtain ⟨j, hj, rfl⟩ := List.mem_iff_getElem.1 hb
  obtain ⟨_, cs, _, _, ho⟩ := hnbm j _ (List.getElem?_eq_getElem hj)
  simp only [List.length_map]
  exact ho.isTold _ c hc
 ·-- the results' values
  have hval : ∀ (j : Nat) (r : ResultVar × TypeId), Fi.res[j]? = some r → ∃ v u, vs[j]? = some v ∧ (resM act.tmps r.1).run P G.w = .ok u G.w ∧ V1V (finG A ids G) v u := by
   intro j r hj
   obtain ⟨v, a1, a2⟩ := h5 j r hj
   cases a2 with
   | box t k ht hk =>
    refine ⟨_, act.tmps.getD t undef, a1, by rw [ht]; simp [resM], ?_⟩
    have hkp := pos_some hk
    rw [List.getElem?_map] at hkp
    cases hp : Fi.nb[k]? with
    | none => rw [hp] at hkp; cases hkp
    | some p =>
     rw [hp] at hkp
     have hpt : p.1 = t := Option.some.inj hkp
     obtain ⟨b, cs, cs', b1, b2, b3, b4, b5⟩ := h10 k p hp
     have hv := ev1_ok hG (.tmp p.1)
     rw [b3] at hv
     have hv : act.eval (.tmp p.1) = .pointer (some ⟨G.β b, 0, none⟩) := hv
     refine ⟨_, rfl, ?_⟩
     show _ = Value.pointer (some ⟨(finG A ids G).β (1000 + k), 0, none⟩)
     rw [finβ_new b1, ← hv, hpt]
     rfl
   | val x cs' hx ho =>
    obtain ⟨r1, r2⟩ := r
    cases r1 with
    | tmp t =>
     have hx : oneV (st.tmps.getD t TV.undef) = some x := hx
     have he := oneV_ok hx
     have hv := hG.tmps t
     rw [he] at hv
     exact ⟨_, act.tmps.getD t undef, a1, by simp [resM], V1V.out h1 hG ho hv⟩
    | cell a t =>
     have htt := hF.cell _ (List.mem_of_getElem? hj) a t rfl
     simp only at htt
     subst htt
     have hx : (match aget Fi.Γ t with | some ti => loadC st ti (ev1 st (.tmp a)) | none => none) = some x := hx
     split at hx
     ·rename_i ti hti
      obtain ⟨addr, u, e1, e2, e3⟩ := loadC_ok hG (hF.Γ t ti hti) (ev1_ok hG (.tmp a)) hx
      refine ⟨_, u, a1, ?_, V1V.out h1 hG ho e3⟩
      have e1 : act.tmps.getD a undef = .pointer (some addr) := e1
      simp [resM, e1, asAddr, e2]
     ·cases hx
  -- all of them
  have hall : ∃ us : List Value, us.length = Fi.res.length ∧ ∀ (j : Nat) (r : ResultVar × TypeId), Fi.res[j]? = some r → ∃ v u, vs[j]? = some v ∧ us[j]? = some u ∧ (resM act.tmps r.1).run P G.w = .ok u G.w ∧ V1V (finG A ids G) v u := by
   refine ⟨Fi.res.map fun r => (match (resM act.tmps r.1).run P G.w with | .ok u _ => u | _ => undef), by simp, fun j r hj => ?_⟩
   obtain ⟨v, u, a1, a2, a3⟩ := hval j r hj
   exact ⟨v, u, a1, by rw [List.getElem?_map, hj]; simp only [Option.map_some, a2], a2, a3⟩
  obtain ⟨us, hul, hus⟩ := hall
  have hresl : Fi.res.length = fn.results.size := by have := congrArg List.length hF.res; simpa using this
  have hrun := run_results (P := P) (fn := fn) (tmps := act.tmps) (w := G.w) (us := us) (by omega) (fun j r hj => by
   rw [← hF.res, List.getElem?_map] at hj
   cases hp : Fi.res[j]? with
   | none => rw [hp] at hj; cases hj
   | some p =>
    rw [hp] at hj
    cases hj
    obtain ⟨v, u, _, a2, a3, _⟩ := hus j p hp
    exact ⟨u, a2, a3⟩)
  refine ⟨_, finG A ids G, hrun, rfl, ⟨?_, fun j R hj => ?_, fun k R hk => ?_, fun j cs hj => ?_, fun k cs hk => ?_⟩, fun s ht hk => fin_step s ht hk⟩
  ·-- results
   have hvs : ∀ (j : Nat) (v : V1), vs[j]? = some v → ∃ u, us[j]? = some u ∧ V1V (finG A ids G) v u := fun j v hj => by
    have hlt : j < Fi.res.length := by have := (List.getElem?_eq_some_iff.1 hj).1; omega
    obtain ⟨v', u, a1, a2, _, a4⟩ := hus j _ (List.getElem?_eq_getElem hlt)
    rw [hj] at a1; cases a1
    exact ⟨u, a2, a4⟩
   have hlen : us.length = vs.length := by omega
   have hr := resTV_ok hlen hvs
   have e : ∀ vs : List V1, tvOf vs = (match vs with | [v] => TV.v v | vs => .tp vs) := by intro vs; rcases vs with _ | ⟨v, _ | ⟨v', l⟩⟩ <;> rfl
   rw [e] at hr
   exact hr
  ·obtain ⟨a1, R0, a2, rfl⟩ := finRows_get hj
   rw [Nat.zero_add] at a2
   have hlt := (List.getElem?_eq_some_iff.1 a1).1
   refine RowOk.kept h1 (by have := hF.rk; omega) (fun hm => ?_) (hG.rows j R0 a2)
   have := h3 j hm
   rw [List.getD_eq_getElem?_getD, a1] at this
   cases this
  ·rw [List.getElem?_map] at hk
   cases hp : A.nw[k]? with
   | none => rw [hp] at hk; cases hk
   | some p => rw [hp] at hk; cases hk; exact RowOk.newOut h1 hG h2 hp
  ·obtain ⟨cs0, a1, a2⟩ := h7 j cs hj
   exact BoxOk.out h1 hG a1 a2 (.inl ⟨rfl, by have hj' : j < bs.length := (List.getElem?_eq_some_iff.1 hj).1; have := hF.bx; omega⟩)
  ·obtain ⟨b, cs0, a1, a2, a3⟩ := hnbm k cs hk
   exact BoxOk.out h1 hG a2 a3 (.inr ⟨k, a1, rfl⟩)
end Go.Tv
set_option autoImplicit false
namespace Go.Tv
open Go
variable [Env]
variable {P : Program} {G G' : Gh} {X : Ctx} {F U : Nat → Prop} {kl : Bool} {o : Oper} {st : St} {A : Acc} {ids : List Nat}
def numb {α : Type} : Nat → List α → List (Nat × α)
 | _, [] => []
 | n, x :: l => (n, x) :: numb (n + 1) l
theorem numb_get {α : Type} : ∀ {l : List α} {n k : Nat} {x : α}, aget (numb n l) k = some x → ∃ j, k = n + j ∧ l[j]? = some x
 | [], n, k, x, h => by cases h
 | y :: l, n, k, x, h => by
  simp only [numb, aget] at h
  cases hb : Nat.beq n k with
  | true => rw [hb] at h; cases h; have := Nat.eq_of_beq_eq_true hb; subst this; exact ⟨0, rfl, rfl⟩
  | false => rw [hb] at h; obtain ⟨j, h1, h2⟩ := numb_get h; exact ⟨j + 1, by omega, h2⟩
/-- the state at a function's beginning -/
def entry (n : Nat) (as : List TV) (rows : List Row) (boxes : List (List C)) : St :=
 ⟨as ++ List.replicate (n - as.length) TV.undef, numb 0 rows, numb 0 boxes⟩
def finK (Fi : Fin) (K : Res → Option Res) (st : St) : Option Res := match finR Fi st with
 | some res => K res
 | none => none
def endK (X : Ctx) : KL := fun e st => match e with
 | .normal => X.fin st
 | _ => none
theorem entry_ok {as : List TV} {rows : List Row} {boxes : List (List C)} {vals : Array Value} {n : Nat} (h : ArgsOk G as rows boxes vals) : Ok G (entry n as rows boxes) { tmps := vals ++ Array.replicate (n - vals.size) undef, defers := [] } := by
 refine ⟨h.env, by simp [entry, h.len], fun t => ?_, fun r R hr => ?_, fun b cs hb => ?_⟩
 ·simp only [entry, List.getD_eq_getElem?_getD, Array.getD_eq_getD_getElem?]
  by_cases ht : t < as.length
  ·obtain ⟨v, h1, h2⟩ := h.val t _ (List.getElem?_eq_getElem ht)
   rw [List.getElem?_append_left ht, List.getElem?_eq_getElem ht, Array.getElem?_append_left (by rw [h.len]; exact ht), h1]
   exact h2
  ·rw [List.getElem?_append_right (by omega), Array.getElem?_append_right (by rw [h.len]; omega)]
   simp only [List.getElem?_replicate, Array.getElem?_replicate, h.len]
   split
   ·exact TVV.undef G
   ·exact TVV.undef G
 ·obtain ⟨j, h1, h2⟩ := numb_get hr
  rw [Nat.zero_add] at h1
  subst h1
  exact h.rows _ R h2
 ·obtain ⟨j, h1, h2⟩ := numb_get hb
  rw [Nat.zero_add] at h1
  subst h1
  exact h.boxes _ cs h2
/-- what is laid of a function -/
structure FunOk (P : Program) (kl : Bool) (f : FuncId) (fn : Func) (c : Code) (Fi : Fin) (X : (Res → Option Res) → Ctx) : Prop where
 hf : P.funcs[f]? = some fn
 hb : fn.body = some c
 name : (fn.name == "runtime.NumGoroutine") = false
 fin : FinOk P Fi fn
 ctx : ∀ K, XOk P (X K)
 finE : ∀ K, (X K).fin = finK Fi K
 nk : kl = false → ∀ K, (X K).nk = true
 loops : ∀ K, ∀ p ∈ loopsOf c, LpSound P (X K) p.1 p.2
theorem sound_of {f : FuncId} {fn : Func} {c : Code} {Fi : Fin} {X : (Res → Option Res) → Ctx} {orc : Orc} (h : FunOk P kl f fn c Fi X)
 (ho : ∀ as rows boxes K r, orc as rows boxes K = some r → exec (X K) c (entry fn.ntmps as rows boxes) (endK (X K)) = some r) : SoundF P kl f orc := by
 intro as rows boxes K r hr
 obtain ⟨out, h1, h2⟩ := exec_sound (h.ctx K) c _ _ r (h.loops K) (ho as rows boxes K r hr)
 have key : ∃ st' res, finR Fi st' = some res ∧ K res = some r ∧ ∀ G a Q, Ok G (entry fn.ntmps as rows boxes) a → a.defers = [] → Post (X K) G st' (Q .normal) → Post (X K) G st' (Q .ret) → c.wp P Q a G.w := by
  have hfin : ∀ st', (X K).fin st' = some r → ∃ res, finR Fi st' = some res ∧ K res = some r := by
   intro st' hs
   rw [h.finE] at hs
   unfold finK at hs
   split at hs
   ·rename_i res hres; exact ⟨res, hres, hs⟩
   ·cases hs
  cases out with
  | ret st' => obtain ⟨res, a1, a2⟩ := hfin st' h1; exact ⟨st', res, a1, a2, fun G a Q hG hd _ hq => h2 G a Q hG hd hq⟩
  | k e st' =>
   cases e with
   | normal => obtain ⟨res, a1, a2⟩ := hfin st' h1; exact ⟨st', res, a1, a2, fun G a Q hG hd hq _ => h2 G a Q hG hd hq⟩
   | exit b => cases h1
 obtain ⟨st', res, k1, k2, k3⟩ := key
 obtain ⟨f1, f2⟩ := finR_ok h.fin k1
 refine ⟨res, k2, f1, fun G vals hA => .inl ⟨?_, ?_⟩⟩
 ·have hn : fn.name ≠ "runtime.NumGoroutine" := by simpa using h.name
  simp [callFunc, h.hf, hn, h.hb]
 ·refine calls_of_wp h.hf h.hb ?_
  have hpost : ∀ e : Exit, (e = .normal ∨ e = .ret) → Post (X K) G st' (bodyPost P fn (fun | .returned v, w' => ∃ G', w' = G'.w ∧ Step Uc Fc kl G G' ∧ ResOk G' res v | _, _ => False) e) := by
   intro e he G' a' hs hG' hd'
   obtain ⟨v, G'', r1, r2, r3, r4⟩ := f2 G' a' hG'
   have : a'.defers = [] ∧ ∃ v, (results fn a'.tmps).run P G'.w = .ok v G'.w ∧ ∃ G'', G'.w = G''.w ∧ Step Uc Fc kl G G'' ∧ ResOk G'' res v :=
    ⟨hd', v, r1, G'', r2.symm, r4 hs hA.tags (fun hk => h.nk hk K), r3⟩
   rcases he with rfl | rfl <;> exact this
  exact k3 G _ _ (entry_ok hA) rfl (hpost .normal (.inl rfl)) (hpost .ret (.inr rfl))
/-! ### leaves -/
theorem likeL_ok {α : Type} {f : α → α → Bool} {l : α → List Lf} (hlen : ∀ x y, f x y = true → (l x).length = (l y).length) (hf : ∀ x y, f x y = true → l x = l y → x = y) :
 ∀ {xs ys : List α}, C.like.likeL f xs ys = true → ((xs.flatMap l).length = (ys.flatMap l).length) ∧ (xs.flatMap l = ys.flatMap l → xs = ys)
 | [], [], _ => ⟨rfl, fun _ => rfl⟩
 | [], _ :: _, h => by cases h
 | _ :: _, [], h => by cases h
 | x :: xs, y :: ys, h => by
  simp only [C.like.likeL, Bool.and_eq_true] at h
  obtain ⟨h1, h2⟩ := likeL_ok hlen hf h.2
  refine ⟨by simp only [List.flatMap_cons, List.length_append, hlen x y h.1, h1], fun he => ?_⟩
  simp only [List.flatMap_cons] at he
  obtain ⟨e1, e2⟩ := List.append_inj he (hlen x y h.1)
  rw [hf x y h.1 e1, h2 e2]
theorem likeNat_ok : ∀ {xs ys : List Nat}, C.like.likeL Nat.beq xs ys = true → xs = ys
 | [], [], _ => rfl
 | [], _ :: _, h => by cases h
 | _ :: _, [], h => by cases h
 | x :: xs, y :: ys, h => by
  simp only [C.like.likeL, Bool.and_eq_true] at h
  rw [Nat.eq_of_beq_eq_true h.1, likeNat_ok h.2]
theorem C.like_ok {x y : C} (h : C.like x y = true) : x.leaves.length = y.leaves.length ∧ (x.leaves = y.leaves → x = y) := by
 cases x <;> cases y <;> simp only [C.like, Bool.and_eq_true, decide_eq_true_eq, Bool.false_eq_true] at h <;> refine ⟨rfl, fun he => ?_⟩
 ·rfl
 ·rfl
 ·subst h; cases he; rfl
 ·cases he; rfl
 ·cases he; rfl
 ·rfl
 ·cases he; rw [Nat.eq_of_beq_eq_true h.1.1, Nat.eq_of_beq_eq_true h.1.2, ctsBeq_eq h.2]
 ·rw [Nat.eq_of_beq_eq_true h]
 ·cases he; rw [Nat.eq_of_beq_eq_true h]
 ·rw [Nat.eq_of_beq_eq_true h.1, Nat.eq_of_beq_eq_true h.2]
 ·cases he; rw [Nat.eq_of_beq_eq_true h.1, Nat.eq_of_beq_eq_true h.2]
 ·cases he; rw [Nat.eq_of_beq_eq_true h.1.1, ctsBeq_eq h.1.2, Nat.eq_of_beq_eq_true h.2]
 ·rw [Nat.eq_of_beq_eq_true h.1, likeNat_ok h.2]
theorem Cs.like_ok {xs ys : List C} (h : C.like.likeL C.like xs ys = true) : (xs.flatMap C.leaves).length = (ys.flatMap C.leaves).length ∧ (xs.flatMap C.leaves = ys.flatMap C.leaves → xs = ys) :=
 likeL_ok (f := C.like) (l := C.leaves) (fun x y h => (C.like_ok h).1) (fun x y h => (C.like_ok h).2) h
theorem V1.like_ok {x y : V1} (h : V1.like x y = true) : (x.cs.flatMap C.leaves).length = (y.cs.flatMap C.leaves).length ∧ (x.cs.flatMap C.leaves = y.cs.flatMap C.leaves → x = y) := by
 obtain ⟨g, cs⟩ := x
 obtain ⟨g', cs'⟩ := y
 simp only [V1.like, Bool.and_eq_true, beq_iff_eq] at h
 obtain ⟨h1, h2⟩ := Cs.like_ok h.2
 refine ⟨h1, fun he => ?_⟩
 rw [h.1, h2 he]
theorem TV.like_ok {x y : TV} (h : TV.like x y = true) : x.leaves.length = y.leaves.length ∧ (x.leaves = y.leaves → x = y) := by
 cases x <;> cases y <;> simp only [TV.like, Bool.false_eq_true] at h <;> simp only [TV.leaves]
 ·obtain ⟨h1, h2⟩ := V1.like_ok h
  exact ⟨h1, fun he => by rw [h2 he]⟩
 ·obtain ⟨h1, h2⟩ := likeL_ok (f := V1.like) (l := fun x => x.cs.flatMap C.leaves) (fun x y h => (V1.like_ok h).1) (fun x y h => (V1.like_ok h).2) h
  exact ⟨h1, fun he => by rw [h2 he]⟩
 ·obtain ⟨h1, h2⟩ := Cs.like_ok h
  exact ⟨h1, fun he => by rw [h2 he]⟩
 ·rw [Bool.and_eq_true] at h
  obtain ⟨h1, h2⟩ := Cs.like_ok h.1
  have := Nat.eq_of_beq_eq_true h.2
  subst this
  exact ⟨h1, fun he => by rw [h2 he]⟩
theorem Row.like_ok {p q : Nat × Row} (h : (Nat.beq p.1 q.1 && Row.like p.2 q.2) = true) : [Lf.q p.2.q] = [Lf.q q.2.q] → p = q := by
 obtain ⟨n, e, q1, eu, live, ho⟩ := p
 obtain ⟨n', e', q1', eu', live', ho'⟩ := q
 simp only [Row.like, Bool.and_eq_true, beq_iff_eq, Option.isNone_iff_eq_none] at h
 intro he
 cases he
 rw [Nat.eq_of_beq_eq_true h.1, ctsBeq_eq h.2.1.1.1.1, h.2.1.1.1.2, Nat.eq_of_beq_eq_true h.2.1.1.2, h.2.1.2, h.2.2]
theorem St.like_ok {x y : St} (h : St.like x y = true) (he : x.leaves = y.leaves) : x = y := by
 obtain ⟨t, r, b⟩ := x
 obtain ⟨t', r', b'⟩ := y
 simp only [St.like, Bool.and_eq_true] at h
 simp only [St.leaves] at he
 obtain ⟨h1, h2⟩ := likeL_ok (f := TV.like) (l := TV.leaves) (fun x y h => (TV.like_ok h).1) (fun x y h => (TV.like_ok h).2) h.1.1
 have hr := likeL_ok (f := fun p q : Nat × Row => Nat.beq p.1 q.1 && Row.like p.2 q.2) (l := fun p : Nat × Row => [Lf.q p.2.q]) (fun x y h => rfl) (fun x y h => Row.like_ok h) h.1.2
 have em : ∀ l : List (Nat × Row), l.map (fun p => Lf.q p.2.q) = l.flatMap fun p => [Lf.q p.2.q] := by
  intro l; induction l with
  | nil => rfl
  | cons x l ih => simp only [List.map_cons, List.flatMap_cons, ih]; rfl
 have hb := likeL_ok (f := fun p q : Nat × List C => Nat.beq p.1 q.1 && C.like.likeL C.like p.2 q.2) (l := fun p : Nat × List C => p.2.flatMap C.leaves) (fun x y h => by
  rw [Bool.and_eq_true] at h
  exact (Cs.like_ok h.2).1) (fun x y h he => by
  rw [Bool.and_eq_true] at h
  obtain ⟨n, cs⟩ := x
  obtain ⟨n', cs'⟩ := y
  have h1 := Nat.eq_of_beq_eq_true h.1
  have h2 := (Cs.like_ok h.2).2 he
  simp only at h1 h2
  rw [h1, h2]) h.2
 rw [em, em] at he
 obtain ⟨e1, e3⟩ := List.append_inj he (by simp only [List.length_append, h1, hr.1])
 obtain ⟨e1, e2⟩ := List.append_inj e1 h1
 rw [h2 e1, hr.2 e2, hb.2 e3]
/-- a loop by its state's leaves -/
theorem mkLp_inv {fr : List Lf → Option St} {run : List Lf → (St → Option Res) → Option Res} (hfr : ∀ l st, fr l = some st → st.leaves = l) {K : St → Option Res} {r : Res} (h : mkLp fr run st K = some r) : fr st.leaves = some st ∧ run st.leaves K = some r := by
 unfold mkLp at h
 split at h
 ·rename_i st' hs
  cases hl : st.like st' with
  | false => rw [hl] at h; cases h
  | true =>
   rw [hl] at h
   have := St.like_ok hl (hfr _ _ hs).symm
   subst this
   exact ⟨hs, h⟩
 ·cases h
def argSt (as : List TV) (rows : List Row) (boxes : List (List C)) : St := ⟨as, rows.map fun R => (0, R), boxes.map fun b => (0, b)⟩
theorem mkOrc_inv {fr : List Lf → Option St} {run : List Lf → (Res → Option Res) → Option Res} (hfr : ∀ l st, fr l = some st → st.leaves = l) {as : List TV} {rows : List Row} {boxes : List (List C)} {K : Res → Option Res} {r : Res}
 (h : mkOrc fr run as rows boxes K = some r) : ∃ st', fr (argSt as rows boxes).leaves = some st' ∧ st'.tmps = as ∧ st'.rows.map (·.2) = rows ∧ st'.boxes.map (·.2) = boxes ∧ run (argSt as rows boxes).leaves K = some r := by
 unfold mkOrc at h
 simp only at h
 split at h
 ·rename_i st' hs
  cases hl : (⟨as, rows.map fun R => (0, R), boxes.map fun b => (0, b)⟩ : St).like st' with
  | false => rw [hl] at h; cases h
  | true =>
   rw [hl] at h
   have := St.like_ok hl (hfr _ _ hs).symm
   subst this
   refine ⟨_, hs, rfl, ?_, ?_, h⟩
   ·show (rows.map fun R => ((0 : Nat), R)).map (·.2) = rows
    rw [List.map_map]; exact List.map_id _
   ·show (boxes.map fun R => ((0 : Nat), R)).map (·.2) = boxes
    rw [List.map_map]; exact List.map_id _
 ·cases h
end Go.Tv
set_option autoImplicit false
namespace Go.Tv
open Go
variable {P : Program} {G G' : Gh} {X : Ctx} {kl : Bool} {st : St}
/-- rounds without end: more than any machine does -/
noncomputable def fuel : Nat := Classical.choose (⟨18446744073709551616, rfl⟩ : ∃ n : Nat, n = 18446744073709551616)
theorem fuel_eq : fuel = 18446744073709551616 := Classical.choose_spec (⟨18446744073709551616, rfl⟩ : ∃ n : Nat, n = 18446744073709551616)
/-! ### states of a shape -/
variable [Env]
theorem C.like_eq {x y z : C} (h : C.like x z = true) (h' : C.like y z = true) (he : x.leaves = y.leaves) : x = y := by
 cases x <;> cases z <;> simp only [C.like, Bool.and_eq_true, decide_eq_true_eq, Bool.false_eq_true] at h <;> cases y <;> simp only [C.like, Bool.and_eq_true, decide_eq_true_eq, Bool.false_eq_true] at h'
 ·rfl
 ·rfl
 ·subst h; subst h'; cases he; rfl
 ·cases he; rfl
 ·cases he; rfl
 ·rfl
 ·cases he
  rw [Nat.eq_of_beq_eq_true h.1.1, Nat.eq_of_beq_eq_true h.1.2, ctsBeq_eq h.2, Nat.eq_of_beq_eq_true h'.1.1, Nat.eq_of_beq_eq_true h'.1.2, ctsBeq_eq h'.2]
 ·rw [Nat.eq_of_beq_eq_true h, Nat.eq_of_beq_eq_true h']
 ·cases he; rw [Nat.eq_of_beq_eq_true h, Nat.eq_of_beq_eq_true h']
 ·rw [Nat.eq_of_beq_eq_true h.1, Nat.eq_of_beq_eq_true h.2, Nat.eq_of_beq_eq_true h'.1, Nat.eq_of_beq_eq_true h'.2]
 ·cases he; rw [Nat.eq_of_beq_eq_true h.1, Nat.eq_of_beq_eq_true h.2, Nat.eq_of_beq_eq_true h'.1, Nat.eq_of_beq_eq_true h'.2]
 ·cases he; rw [Nat.eq_of_beq_eq_true h.1.1, ctsBeq_eq h.1.2, Nat.eq_of_beq_eq_true h.2, Nat.eq_of_beq_eq_true h'.1.1, ctsBeq_eq h'.1.2, Nat.eq_of_beq_eq_true h'.2]
 ·rw [Nat.eq_of_beq_eq_true h.1, likeNat_ok h.2, Nat.eq_of_beq_eq_true h'.1, likeNat_ok h'.2]
theorem likeL_eq {α : Type} {f : α → α → Bool} {l : α → List Lf} (hlen : ∀ x y, f x y = true → (l x).length = (l y).length) (hf : ∀ x y z, f x z = true → f y z = true → l x = l y → x = y) :
 ∀ {xs ys zs : List α}, C.like.likeL f xs zs = true → C.like.likeL f ys zs = true → xs.flatMap l = ys.flatMap l → xs = ys
 | [], [], [], _, _, _ => rfl
 | x :: xs, y :: ys, z :: zs, h, h', he => by
  simp only [C.like.likeL, Bool.and_eq_true] at h h'
  simp only [List.flatMap_cons] at he
  obtain ⟨e1, e2⟩ := List.append_inj he ((hlen x z h.1).trans (hlen y z h'.1).symm)
  rw [hf x y z h.1 h'.1 e1, likeL_eq hlen hf h.2 h'.2 e2]
 | [], _ :: _, [], _, h', _ => by cases h'
 | [], _, _ :: _, h, _, _ => by cases h
 | _ :: _, _, [], h, _, _ => by cases h
 | _ :: _, [], _ :: _, _, h', _ => by cases h'
theorem likeL_len {α : Type} {f : α → α → Bool} {l : α → List Lf} (hlen : ∀ x y, f x y = true → (l x).length = (l y).length) : ∀ {xs ys : List α}, C.like.likeL f xs ys = true → (xs.flatMap l).length = (ys.flatMap l).length
 | [], [], _ => rfl
 | [], _ :: _, h => by cases h
 | _ :: _, [], h => by cases h
 | x :: xs, y :: ys, h => by
  simp only [C.like.likeL, Bool.and_eq_true] at h
  simp only [List.flatMap_cons, List.length_append, hlen x y h.1, likeL_len hlen h.2]
theorem C.like_len {x y : C} (h : C.like x y = true) : x.leaves.length = y.leaves.length := (C.like_ok h).1
theorem Cs.like_eq {x y z : List C} (h : C.like.likeL C.like x z = true) (h' : C.like.likeL C.like y z = true) (he : x.flatMap C.leaves = y.flatMap C.leaves) : x = y :=
 likeL_eq (f := C.like) (l := C.leaves) (fun _ _ => C.like_len) (fun _ _ _ => C.like_eq) h h' he
theorem V1.like_eq {x y z : V1} (h : V1.like x z = true) (h' : V1.like y z = true) (he : x.cs.flatMap C.leaves = y.cs.flatMap C.leaves) : x = y := by
 obtain ⟨g, cs⟩ := x
 obtain ⟨g', cs'⟩ := y
 simp only [V1.like, Bool.and_eq_true, beq_iff_eq] at h h'
 rw [h.1, h'.1, Cs.like_eq h.2 h'.2 he]
theorem TV.like_eq {x y z : TV} (h : TV.like x z = true) (h' : TV.like y z = true) (he : x.leaves = y.leaves) : x = y := by
 cases x <;> cases z <;> simp only [TV.like, Bool.false_eq_true] at h <;> cases y <;> simp only [TV.like, Bool.false_eq_true] at h' <;> simp only [TV.leaves] at he
 ·rw [V1.like_eq h h' he]
 ·rw [likeL_eq (f := V1.like) (l := fun x => x.cs.flatMap C.leaves) (fun x y h => (V1.like_ok h).1) (fun _ _ _ => V1.like_eq) h h' he]
 ·rw [Cs.like_eq h h' he]
 ·rw [Bool.and_eq_true] at h h'
  rw [Cs.like_eq h.1 h'.1 he, Nat.eq_of_beq_eq_true h.2, Nat.eq_of_beq_eq_true h'.2]
theorem St.like_eq {x y z : St} (h : St.like x z = true) (h' : St.like y z = true) (he : x.leaves = y.leaves) : x = y := by
 obtain ⟨t, r, b⟩ := x
 obtain ⟨t', r', b'⟩ := y
 simp only [St.like, Bool.and_eq_true] at h h'
 simp only [St.leaves] at he
 have em : ∀ l : List (Nat × Row), l.map (fun p => Lf.q p.2.q) = l.flatMap fun p => [Lf.q p.2.q] := by
  intro l; induction l with
  | nil => rfl
  | cons x l ih => simp only [List.map_cons, List.flatMap_cons, ih]; rfl
 rw [em, em] at he
 have lt := fun {a b : List TV} (h : C.like.likeL TV.like a b = true) => likeL_len (f := TV.like) (l := TV.leaves) (fun x y h => (TV.like_ok h).1) h
 have lr := fun {a b : List (Nat × Row)} (h : C.like.likeL (fun p q : Nat × Row => Nat.beq p.1 q.1 && Row.like p.2 q.2) a b = true) => likeL_len (f := fun p q : Nat × Row => Nat.beq p.1 q.1 && Row.like p.2 q.2) (l := fun p : Nat × Row => [Lf.q p.2.q]) (fun x y h => rfl) h
 obtain ⟨e1, e3⟩ := List.append_inj he (by simp only [List.length_append, lt h.1.1, lt h'.1.1, lr h.1.2, lr h'.1.2])
 obtain ⟨e1, e2⟩ := List.append_inj e1 ((lt h.1.1).trans (lt h'.1.1).symm)
 have a1 := likeL_eq (f := TV.like) (l := TV.leaves) (fun x y h => (TV.like_ok h).1) (fun _ _ _ => TV.like_eq) h.1.1 h'.1.1 e1
 have a2 := likeL_eq (f := fun p q : Nat × Row => Nat.beq p.1 q.1 && Row.like p.2 q.2) (l := fun p : Nat × Row => [Lf.q p.2.q]) (fun x y h => rfl) (fun x y z h h' he => by
  obtain ⟨n, e, q1, eu, live, ho⟩ := x
  obtain ⟨n', e', q1', eu', live', ho'⟩ := y
  simp only [Row.like, Bool.and_eq_true, beq_iff_eq, Option.isNone_iff_eq_none] at h h'
  cases he
  rw [Nat.eq_of_beq_eq_true h.1, ctsBeq_eq h.2.1.1.1.1, h.2.1.1.1.2, Nat.eq_of_beq_eq_true h.2.1.1.2, h.2.1.2, Nat.eq_of_beq_eq_true h'.1, ctsBeq_eq h'.2.1.1.1.1, h'.2.1.1.1.2, Nat.eq_of_beq_eq_true h'.2.1.1.2, h'.2.1.2]) h.1.2 h'.1.2 e2
 have a3 := likeL_eq (f := fun p q : Nat × List C => Nat.beq p.1 q.1 && C.like.likeL C.like p.2 q.2) (l := fun p : Nat × List C => p.2.flatMap C.leaves) (fun x y h => by
  rw [Bool.and_eq_true] at h; exact (Cs.like_ok h.2).1) (fun x y z h h' he => by
  rw [Bool.and_eq_true] at h h'
  obtain ⟨n, cs⟩ := x
  obtain ⟨n', cs'⟩ := y
  have h1 := Nat.eq_of_beq_eq_true h.1
  have h2 := Nat.eq_of_beq_eq_true h'.1
  have h3 := Cs.like_eq h.2 h'.2 he
  simp only at h1 h2 h3
  rw [h1, h2, h3]) h.2 h'.2 e3
 rw [a1, a2, a3]
/-! ### loops and functions by the shapes of their states -/
/-- loops: for each a state of its shape, and what it is -/
def lpOf (l : List (Nat × St × (List Lf → (St → Option Res) → Option Res))) (id : Nat) (st : St) (K : St → Option Res) : Option Res := match l with
 | [] => none
 | p :: l => bif Nat.beq p.1 id && st.like p.2.1 then p.2.2 st.leaves K else lpOf l id st K
def orcOf (l : List (FuncId × St × (List Lf → (Res → Option Res) → Option Res))) (f : FuncId) (as : List TV) (rows : List Row) (boxes : List (List C)) (K : Res → Option Res) : Option Res := match l with
 | [] => none
 | p :: l => bif Nat.beq p.1 f && (argSt as rows boxes).like p.2.1 then p.2.2 (argSt as rows boxes).leaves K else orcOf l f as rows boxes K
theorem lpOf_inv {id : Nat} {K : St → Option Res} {r : Res} : ∀ {l : List (Nat × St × (List Lf → (St → Option Res) → Option Res))}, lpOf l id st K = some r → ∃ p ∈ l, p.1 = id ∧ st.like p.2.1 = true ∧ p.2.2 st.leaves K = some r
 | [], h => by cases h
 | p :: l, h => by
  simp only [lpOf] at h
  cases hb : (Nat.beq p.1 id && st.like p.2.1) with
  | true => rw [hb] at h; rw [Bool.and_eq_true] at hb; exact ⟨p, List.mem_cons_self .., Nat.eq_of_beq_eq_true hb.1, hb.2, h⟩
  | false => rw [hb] at h; obtain ⟨q, h1, h2⟩ := lpOf_inv h; exact ⟨q, List.mem_cons_of_mem _ h1, h2⟩
theorem orcOf_inv {f : FuncId} {as : List TV} {rows : List Row} {boxes : List (List C)} {K : Res → Option Res} {r : Res} : ∀ {l : List (FuncId × St × (List Lf → (Res → Option Res) → Option Res))}, orcOf l f as rows boxes K = some r →
 ∃ p ∈ l, p.1 = f ∧ (argSt as rows boxes).like p.2.1 = true ∧ p.2.2 (argSt as rows boxes).leaves K = some r
 | [], h => by cases h
 | p :: l, h => by
  simp only [orcOf] at h
  cases hb : (Nat.beq p.1 f && (argSt as rows boxes).like p.2.1) with
  | true => rw [hb] at h; rw [Bool.and_eq_true] at hb; exact ⟨p, List.mem_cons_self .., Nat.eq_of_beq_eq_true hb.1, hb.2, h⟩
  | false => rw [hb] at h; obtain ⟨q, h1, h2⟩ := orcOf_inv h; exact ⟨q, List.mem_cons_of_mem _ h1, h2⟩
/-- a contract of one shape -/
def Con (P : Program) (p : FuncId × St × (List Lf → (Res → Option Res) → Option Res)) : Prop := SoundF P (Env.kl.any (Nat.beq p.1)) p.1 fun as rows boxes K => bif (argSt as rows boxes).like p.2.1 then p.2.2 (argSt as rows boxes).leaves K else none
theorem orcOf_ok {l : List (FuncId × St × (List Lf → (Res → Option Res) → Option Res))} (h : ∀ p ∈ l, Con P p) (f : FuncId) : SoundF P (Env.kl.any (Nat.beq f)) f (orcOf l f) := fun as rows boxes K r hr => by
 obtain ⟨p, h1, rfl, h3, h4⟩ := orcOf_inv hr
 exact h p h1 as rows boxes K r (by simp only [h3, cond_true]; exact h4)
/-- one round -/
def iterS (X : Ctx) (id : Nat) (body : Code) (it : St → (St → Option Res) → Option Res) (st : St) (K : St → Option Res) : Option Res :=
 exec X body st fun e st => match e with
  | .normal => cleanK X.cin id st fun st => it st K
  | .exit b => bif Nat.beq b id then cleanK X.cout id st K else none
theorem iter_succ (X : Ctx) (id : Nat) (body : Code) (n : Nat) (st : St) (K : St → Option Res) : iter X id body (n + 1) st K = iterS X id body (iter X id body n) st K := rfl
/-! ### types -/
def ctBtOk (P : Program) (t : TypeId) : Bt → Bool
 | .int k => (match P.underlying t with | some (.int k') => decide (k = k') | _ => false)
 | .bool => (match P.underlying t with | some .bool => true | _ => false)
 | .str => (match P.underlying t with | some .string => true | _ => false)
 | .sl e eb => Nat.ble 1 eb && (match P.underlying t with
  | some (.slice el) => (match P.info? el with
   | some ie => Nat.beq ie.size e.length && Nat.beq ie.bytes eb && (match ie.zero with
    | some z => zerosB z.cells.toList (e.map Ct.zeroV)
    | none => false) && !e.isEmpty
   | none => false)
  | _ => false)
 | .ptr => true
 | .fn => true
 where zerosB : List Value → List Value → Bool
 | [], [] => true
 | .int k n :: l, .int k' n' :: l' => decide (k = k') && decide (n = n') && zerosB l l'
 | .bool b :: l, .bool b' :: l' => (b == b') && zerosB l l'
 | .string s :: l, .string s' :: l' => s.data.toList.isEmpty && s'.data.toList.isEmpty && zerosB l l'
 | .slice none 0 0 :: l, .slice none 0 0 :: l' => zerosB l l'
 | .pointer none :: l, .pointer none :: l' => zerosB l l'
 | .nilFunc :: l, .nilFunc :: l' => zerosB l l'
 | _, _ => false
theorem zerosB_ok : ∀ {l l' : List Value}, ctBtOk.zerosB l l' = true → l = l'
 | [], [], _ => rfl
 | .int k n :: l, .int k' n' :: l', h => by
  simp only [ctBtOk.zerosB, Bool.and_eq_true, decide_eq_true_eq] at h
  rw [h.1.1, h.1.2, zerosB_ok h.2]
 | .bool b :: l, .bool b' :: l', h => by
  simp only [ctBtOk.zerosB, Bool.and_eq_true, beq_iff_eq] at h
  rw [h.1, zerosB_ok h.2]
 | .string s :: l, .string s' :: l', h => by
  simp only [ctBtOk.zerosB, Bool.and_eq_true, List.isEmpty_iff] at h
  have e : ∀ s : ByteArray, s.data.toList = [] → s = ⟨#[]⟩ := fun s hs => by
   obtain ⟨⟨x⟩⟩ := s
   simp only at hs
   subst hs; rfl
  rw [e s h.1.1, e s' h.1.2, zerosB_ok h.2]
 | .slice none 0 0 :: l, .slice none 0 0 :: l', h => by
  simp only [ctBtOk.zerosB] at h
  rw [zerosB_ok h]
 | .pointer none :: l, .pointer none :: l', h => by
  simp only [ctBtOk.zerosB] at h
  rw [zerosB_ok h]
 | .nilFunc :: l, .nilFunc :: l', h => by
  simp only [ctBtOk.zerosB] at h
  rw [zerosB_ok h]
theorem ctBt_ok {t : TypeId} {b : Bt} (h : ctBtOk P t b = true) : BtOk P t b := by
 cases b with
 | int k =>
  simp only [ctBtOk] at h
  split at h
  ·rename_i k' hu; have := of_decide_eq_true h; subst this; exact hu
  ·cases h
 | bool => simp only [ctBtOk] at h; split at h; · assumption
           ·cases h
 | str => simp only [ctBtOk] at h; split at h; · assumption
          ·cases h
 | sl e eb =>
  simp only [ctBtOk, Bool.and_eq_true] at h
  obtain ⟨h1, h2⟩ := h
  split at h2
  ·rename_i el hu
   split at h2
   ·rename_i ie hi
    simp only [Bool.and_eq_true] at h2
    obtain ⟨⟨⟨h3, h4⟩, h5⟩, h6⟩ := h2
    split at h5
    ·rename_i z hz
     exact ⟨ble_le h1, el, ie, z, hu, hi, Nat.eq_of_beq_eq_true h3, Nat.eq_of_beq_eq_true h4, hz, zerosB_ok h5, by intro e; subst e; cases h6⟩
    ·cases h5
   ·cases h2
  ·cases h2
 | ptr => trivial
 | fn => trivial
def fldsB (P : Program) (total : Nat) : List Field → List (Nat × Nat × Bool) → Bool
 | [], [] => true
 | f :: fs, (o, n, a) :: l => (match P.info? f.type, P.underlying f.type with
  | some i, some d => Nat.beq i.size n && Nat.beq f.offset o && (isAggD d == a) && Nat.ble 1 n && (a || Nat.beq n 1) && Nat.ble (o + n) total
  | _, _ => false) && fldsB P total fs l
 | _, _ => false
theorem fldsB_ok {total : Nat} : ∀ {fs : List Field} {l : List (Nat × Nat × Bool)}, fldsB P total fs l = true → fs.length = l.length ∧ ∀ (k : Nat) (f : Field), fs[k]? = some f →
 ∃ fi d, P.info? f.type = some fi ∧ P.underlying f.type = some d ∧ l[k]? = some (f.offset, fi.size, isAggD d) ∧ fi.size ≠ 0 ∧ (isAggD d = false → fi.size = 1) ∧ f.offset + fi.size ≤ total
 | [], [], _ => ⟨rfl, fun k f h => by simp at h⟩
 | [], _ :: _, h => by cases h
 | _ :: _, [], h => by cases h
 | f :: fs, (o, n, a) :: l, h => by
  simp only [fldsB, Bool.and_eq_true] at h
  obtain ⟨h1, h2⟩ := h
  obtain ⟨i1, i2⟩ := fldsB_ok h2
  refine ⟨by simp [i1], fun k g hk => ?_⟩
  cases k with
  | succ k => exact i2 k g hk
  | zero =>
   cases hk
   split at h1
   ·rename_i i d hi hd
    simp only [Bool.and_eq_true, Bool.or_eq_true, beq_iff_eq] at h1
    obtain ⟨⟨⟨⟨⟨a1, a2⟩, a3⟩, a4⟩, a5⟩, a6⟩ := h1
    have a1 := Nat.eq_of_beq_eq_true a1
    have a2 := Nat.eq_of_beq_eq_true a2
    subst a1; subst a2; subst a3
    refine ⟨i, d, hi, hd, rfl, by have := ble_le a4; omega, fun hn => ?_, ble_le a6⟩
    rcases a5 with h | h
    ·rw [hn] at h; cases h
    ·exact Nat.eq_of_beq_eq_true h
   ·cases h1
def tiB (P : Program) (t : TypeId) (ti : TI) : Bool :=
 (match P.info? t with
  | some i => Nat.beq i.size ti.cs.length && (match i.zero with
   | some z => ctBtOk.zerosB z.cells.toList (ti.cs.map Bt.zeroV)
   | none => false)
  | none => false) &&
 (match P.underlying t with
  | some d => isAggD d == ti.agg
  | none => false) &&
 (match ti.agg with
  | true => (match P.underlying t with
   | some (.struct fs) => fldsB P ti.cs.length fs.toList ti.flds
   | _ => false)
  | false => (match ti.cs with
   | [b] => ctBtOk P t b
   | _ => false))
theorem tiB_ok {t : TypeId} {ti : TI} (h : tiB P t ti = true) : TIok P t ti := by
 obtain ⟨agg, cs, fl⟩ := ti
 simp only [tiB, Bool.and_eq_true] at h
 obtain ⟨⟨h1, h2⟩, h3⟩ := h
 refine ⟨?_, ?_, ?_, ?_⟩
 ·split at h1
  ·rename_i i hi
   rw [Bool.and_eq_true] at h1
   obtain ⟨a, b⟩ := h1
   split at b
   ·rename_i z hz; exact ⟨i, z, hi, Nat.eq_of_beq_eq_true a, hz, zerosB_ok b⟩
   ·cases b
  ·cases h1
 ·split at h2
  ·rename_i d hd; exact ⟨d, hd, by simpa using h2⟩
  ·cases h2
 ·intro hag
  have hag : agg = false := hag
  subst hag
  simp only at h3
  split at h3
  ·rename_i b; exact ⟨b, rfl, ctBt_ok h3⟩
  ·cases h3
 ·intro hag
  have hag : agg = true := hag
  subst hag
  simp only at h3
  split at h3
  ·rename_i fs hu
   obtain ⟨i1, i2⟩ := fldsB_ok h3
   exact ⟨fs, hu, by simpa using i1, fun k f hk => i2 k f (by simpa using hk)⟩
  ·cases h3
/-- all types of a list -/
def tisB (P : Program) (l : List (Nat × TI)) : Bool := l.all fun p => tiB P p.1 p.2
theorem tisB_ok {l : List (Nat × TI)} (h : tisB P l = true) : ∀ t ti, aget l t = some ti → TIok P t ti := fun t ti ht => tiB_ok (List.all_eq_true.1 h (t, ti) (aget_mem ht))
def bytB (P : Program) (l : List TypeId) : Bool := l.all fun s => match P.underlying s with
 | some (.slice e) => (match P.underlying e with | some (.int .u8) => true | _ => false)
 | _ => false
theorem bytB_ok {l : List TypeId} (h : bytB P l = true) : ∀ s, l.any (Nat.beq s) = true → ∃ e, P.underlying s = some (.slice e) ∧ P.underlying e = some (.int .u8) := fun s hs => by
 obtain ⟨s', h1, h2⟩ := List.any_eq_true.1 hs
 have := Nat.eq_of_beq_eq_true h2
 subst this
 have := List.all_eq_true.1 h s h1
 split at this
 ·rename_i e he
  split at this
  ·rename_i he'; exact ⟨e, he, he'⟩
  ·cases this
 ·cases this
/-- what all contexts of a program have in common -/
structure Laid (P : Program) (Γ : List (Nat × TI)) (byt eqs : List TypeId) : Prop where
 tis : tisB P Γ = true
 byt : bytB P byt = true
 eqs : (eqs.all fun t => match aget Γ t with | some ti => eqB P t ti.cs | none => false) = true
 mixed : P.follows .mixedOrders = true
structure CtxOk (P : Program) (Γ : List (Nat × TI)) (byt eqs : List TypeId) (X : Ctx) (l : List (FuncId × St × (List Lf → (Res → Option Res) → Option Res))) : Prop where
 tis : X.Γ = Γ
 byt : X.byt = byt
 orc : X.orc = orcOf l
 con : ∀ p ∈ l, Con P p
 eqs : X.eqs = eqs
 kl : X.kl = Env.kl
 own : (X.own.all fun p => Nat.ble (p.2.2.1 + 1) 8) = true
theorem CtxOk.ok {Γ : List (Nat × TI)} {byt eqs : List TypeId} {l : List (FuncId × St × (List Lf → (Res → Option Res) → Option Res))} (h : CtxOk P Γ byt eqs X l) (hL : Laid P Γ byt eqs) : XOk P X where
 Γ := by intro t ti ht; rw [h.tis] at ht; exact tisB_ok hL.tis t ti ht
 orc := fun f => by rw [h.orc, h.kl]; exact orcOf_ok h.con f
 byt := by rw [h.byt]; exact bytB_ok hL.byt
 eqs := fun t ht ti hti => by
  rw [h.eqs] at ht
  rw [h.tis] at hti
  obtain ⟨s, h1, h2⟩ := List.any_eq_true.1 ht
  have := Nat.eq_of_beq_eq_true h2
  subst this
  have := List.all_eq_true.1 hL.eqs t h1
  rw [hti] at this
  exact this
 own := fun p hp => ble_le (List.all_eq_true.1 h.own p hp)
 mixed := hL.mixed
/-- a loop, out of its states' shapes -/
theorem lp_ok (hX : XOk P X) {id : Nat} {body : Code} (hl : ∀ p ∈ loopsOf body, LpSound P X p.1 p.2) {l : List (Nat × St × (List Lf → (St → Option Res) → Option Res))} (he : X.lp = lpOf l)
 (h : ∀ p ∈ l, p.1 = id → ∀ st K r, st.like p.2.1 = true → p.2.2 st.leaves K = some r → ∃ n, iter X id body n st K = some r) : LpSound P X id body :=
 lp_of_iter hX hl fun st K r hr => by
  rw [he] at hr
  obtain ⟨p, h1, h2, h3, h4⟩ := lpOf_inv hr
  exact h p h1 h2 st K r h3 h4
/-- a function's shape -/
theorem con_of {f : FuncId} {fn : Func} {c : Code} {Fi : Fin} {X : (Res → Option Res) → Ctx} {tmpl : St} {run : List Lf → (Res → Option Res) → Option Res} (h : FunOk P (Env.kl.any (Nat.beq f)) f fn c Fi X)
 (ho : ∀ as rows boxes K r, (argSt as rows boxes).like tmpl = true → run (argSt as rows boxes).leaves K = some r → exec (X K) c (entry fn.ntmps as rows boxes) (endK (X K)) = some r) : Con P (f, tmpl, run) :=
 sound_of h fun as rows boxes K r hr => by
  cases hl : (argSt as rows boxes).like tmpl with
  | false => simp only [hl, cond_false] at hr; cases hr
  | true => simp only [hl, cond_true] at hr; exact ho as rows boxes K r hl hr
theorem con_none {P : Program} {f : FuncId} {tmpl : St} {run : List Lf → (Res → Option Res) → Option Res} (h : ∀ l K, run l K = none) : Con P (f, tmpl, run) := fun as rows boxes K r hr => by
 simp only [h] at hr
 cases hl : (argSt as rows boxes).like tmpl <;> rw [hl] at hr <;> cases hr
theorem argSt_inj {as as' : List TV} {rows rows' : List Row} {boxes boxes' : List (List C)} (h : argSt as rows boxes = argSt as' rows' boxes') : as = as' ∧ rows = rows' ∧ boxes = boxes' := by
 simp only [argSt, St.mk.injEq] at h
 refine ⟨h.1, ?_, ?_⟩
 ·have := congrArg (List.map (·.2)) h.2.1
  simpa [List.map_map, Function.comp_def] using this
 ·have := congrArg (List.map (·.2)) h.2.2
  simpa [List.map_map, Function.comp_def] using this
def finB (Fi : Fin) : Bool := (Fi.res.all fun p => match p.1 with
 | .cell _ t => Nat.beq t p.2
 | .tmp _ => true) && Nat.ble Fi.rk.length 1000 && Nat.ble Fi.bx.length 1000
theorem fin_of {Γ : List (Nat × TI)} {byt eqs : List TypeId} {Fi : Fin} {fn : Func} (hL : Laid P Γ byt eqs) (h1 : Fi.Γ = Γ) (h2 : Fi.res.map (·.1) = fn.results.toList) (h : finB Fi = true) : FinOk P Fi fn := by
 simp only [finB, Bool.and_eq_true] at h
 refine ⟨by rw [h1]; exact tisB_ok hL.tis, h2, fun p hp a t he => ?_, ble_le h.1.2, ble_le h.2⟩
 have := List.all_eq_true.1 h.1.1 p hp
 rw [he] at this
 exact Nat.eq_of_beq_eq_true this
theorem fun_of {Γ : List (Nat × TI)} {byt eqs : List TypeId} {f : FuncId} {fn : Func} {c : Code} {Fi : Fin} {X : (Res → Option Res) → Ctx} {l : List (FuncId × St × (List Lf → (Res → Option Res) → Option Res))} (hL : Laid P Γ byt eqs)
 (hf : P.funcs[f]? = some fn) (hb : fn.body = some c) (hn : (fn.name == "runtime.NumGoroutine") = false) (h1 : Fi.Γ = Γ) (h2 : Fi.res.map (·.1) = fn.results.toList) (h3 : finB Fi = true)
 (hX : ∀ K, CtxOk P Γ byt eqs (X K) l) (hfin : ∀ K, (X K).fin = finK Fi K) (hnk : ∀ K, (X K).nk = !Env.kl.any (Nat.beq f)) (hl : ∀ K, ∀ p ∈ loopsOf c, LpSound P (X K) p.1 p.2) : FunOk P (Env.kl.any (Nat.beq f)) f fn c Fi X :=
 ⟨hf, hb, hn, fin_of hL h1 h2 h3, fun K => (hX K).ok hL, hfin, fun h K => by rw [hnk, h]; rfl, hl⟩
/-- a bundle is a tree of trees, for reading -/
theorem bn_tr {G : Gh} {k : IntKind} {L : List (List Int)} {v : Value} (h : TVV G (.bn (L.map fun xs => .tr 0 1 [.int k] (.ints xs))) v) : TVV G (one (.tr 2 0 [.ints k] (.cells (L.map fun xs => [Cl.l xs])))) v := by
 obtain ⟨A, rfl, h⟩ := h
 refine TVV.one ⟨A, L.length, by simp [Sq.len], ⟨rfl, by simp [Sq.len]⟩, ?_⟩
 rcases h with h | ⟨g, rfl, hg, h⟩
 ·left; cases L with
  | nil => rfl
  | cons a l => cases h
 ·refine .inr ⟨g, 0, rfl, by rw [hg]; trivial, ?_⟩
  intro i j t hi hj
  simp only [Sq.len, List.length_map] at hi
  cases j with
  | succ j => simp at hj
  | zero =>
   cases hj
   obtain ⟨u, h1, h2⟩ := h i (.tr 0 1 [.int k] (.ints (L[i]))) (by simp [hi])
   refine ⟨u, .l L[i], by simpa using h1, by simp [Sq.get, hi], ?_⟩
   obtain ⟨B, cap, rfl, hf, h3⟩ := h2
   refine ⟨B, cap, rfl, hf.2, ?_⟩
   rcases h3 with h3 | ⟨g', o, rfl, h4, h5⟩
   ·left; exact List.length_eq_zero_iff.1 h3
   ·refine .inr ⟨g', o, rfl, h4, fun n x hx => ?_⟩
    have hn : n < L[i].length := (List.getElem?_eq_some_iff.1 hx).1
    obtain ⟨w, c, e1, e2, e3⟩ := h5 n 0 (.int k) hn rfl
    simp only [Sq.get, List.getElem?_cons_zero, Option.some.injEq] at e2
    subst e2
    have e3 : w = .int k _ := e3
    subst e3
    simp only [List.length_singleton, Nat.mul_one, Nat.add_zero] at e1
    rw [e1, List.getD_eq_getElem?_getD, hx]
    rfl
theorem bn_sound {P : Program} {f : FuncId} {k : IntKind} {run1 : List Lf → (Res → Option Res) → Option Res} {t1 : St} (h : Con P (f, t1, run1)) (ht : ∀ L, (argSt [one (.tr 2 0 [.ints k] (.cells L))] [] []).like t1 = true)
 (L : List (List Int)) {K : Res → Option Res} {r : Res} (hr : run1 [.q (.cells (L.map fun xs => [Cl.l xs]))] K = some r) :
 ∃ res, K res = some r ∧ res.told ∧ ∀ G vals, ArgsOk G [.bn (L.map fun xs => .tr 0 1 [.int k] (.ints xs))] [] [] vals →
  CallsF P f vals G.w fun v w' => ∃ G', w' = G'.w ∧ Step Uc Fc (Env.kl.any (Nat.beq f)) G G' ∧ ResOk G' res v := by
 obtain ⟨res, h1, h2, h3⟩ := h [one (.tr 2 0 [.ints k] (.cells (L.map fun xs => [Cl.l xs])))] [] [] K r (by simp only [ht, cond_true]; exact hr)
 refine ⟨res, h1, h2, fun G vals ha => h3 G vals ⟨ha.env, ha.len, fun j x hx => ?_, fun j R hj => by simp at hj, fun j cs hj => by simp at hj, ha.tags⟩⟩
 cases j with
 | succ j => simp at hx
 | zero =>
  cases hx
  obtain ⟨v, e1, e2⟩ := ha.val 0 _ rfl
  exact ⟨v, e1, bn_tr e2⟩
end Go.Tv
set_option autoImplicit false
namespace Go.Tv
open Go
variable [Env]
variable {H : Type} {enc : TypeId × Value → H} {P : Program} {W : World} {sp : Nat → Bool} {held : Bool}
/-- all that is there is told for ever -/
def immG (W : World) : Gh := ⟨fun _ => ⟨none, 0, 0, 0⟩, fun _ => 0, fun _ => .imm, W⟩
def IntsI (W : World) (k : IntKind) (xs : List Int) (v : Value) : Prop := ∀ x, IntsV (immG W) x k xs v
/-- is a cell's type of the kind -/
def ctB (P : Program) (t : TypeId) : Ct → Bool
 | .int k => (match P.underlying t with | some (.int k') => decide (k = k') | _ => false)
 | .bool => (match P.underlying t with | some .bool => true | _ => false)
 | .str => (match P.underlying t with | some .string => true | _ => false)
 | .ints k => (match P.underlying t with
  | some (.slice e) => Nat.beq (P.cellsOf e) 1 && (match P.underlying e with | some (.int k') => decide (k = k') | _ => false)
  | _ => false)
/-- numbers in their range, and no text longer than any -/
def wfCl : Ct → Cl → Prop
 | .int k, .i n => (Lit.int k n).wf = true
 | .str, .s s => s.size ≤ maxLen
 | .ints k, .l xs => xs.length ≤ maxLen ∧ ∀ n ∈ xs, (Lit.int k n).wf = true
 | _, _ => True
theorem trodInt {fuel : Nat} {t : TypeId} {k : IntKind} {v : Value} {x : DataW H × List MemPlace} (ht : P.underlying t = some (.int k)) (h : DataW.trod enc P W 0 sp held fuel t [v] = some x) : ∃ n, v = .int k n ∧ (Lit.int k n).wf = true := by
 cases fuel with
 | zero => simp [DataW.trod] at h
 | succ n =>
  unfold DataW.trod at h
  rw [ht] at h
  cases v <;> simp at h
  rename_i k' m
  exact ⟨m, by rw [h.1.1], h.1.2⟩
theorem addr_none {a : Addr} {v : Value} {w : World} (h : w.cell? a = some v) : a = ⟨a.block, a.off, none⟩ := by
 obtain ⟨b, o, s⟩ := a
 cases s with
 | none => rfl
 | some s =>
  exfalso
  unfold World.cell? at h
  split at h
  ·simp at h
  ·cases h
/-- ints in one cell each -/
theorem readInts {fuel : Nat} {t e : TypeId} {k : IntKind} {v : Value} {x : DataW H × List MemPlace} (ht : P.underlying t = some (.slice e)) (hc : P.cellsOf e = 1) (he : P.underlying e = some (.int k)) (h : DataW.trod enc P W 0 sp held fuel t [v] = some x) :
 ∃ xs : List Int, IntsI W k xs v ∧ xs.length ≤ maxLen ∧ (∀ n ∈ xs, (Lit.int k n).wf = true) ∧ v.oneCell' = true := by
 rcases Deep.open_slice1 ht hc h with ⟨h0, _⟩ | ⟨a, len, cap, m, n, V, D, Pl, h0, _, hl, hm, hmm, _, hx⟩
 ·cases h0
  exact ⟨[], fun x => ⟨none, 0, rfl, Nat.le_refl _, .inl rfl⟩, by simp [maxLen], fun n h => (by cases h), rfl⟩
 ·cases h0
  have hlm : len ≤ m := by rw [hmm]; split <;> omega
  have hV : ∀ i, i < len → ∃ z, V i = .int k z ∧ (Lit.int k z).wf = true := fun i hi => by
   obtain ⟨z, h1, h2⟩ := trodInt he (hx i (by omega)).2
   exact ⟨z, h1, h2⟩
  let z : Nat → Int := fun i => match V i with | .int _ z => z | _ => 0
  have hz : ∀ i, i < len → V i = .int k (z i) ∧ (Lit.int k (z i)).wf = true := fun i hi => by
   obtain ⟨y, h1, h2⟩ := hV i hi
   have : z i = y := by simp only [z, h1]
   rw [this]; exact ⟨h1, h2⟩
  refine ⟨(List.range len).map z, fun x => ⟨some a, cap, by simp, by simpa using hl, ?_⟩, by simp; omega, fun n hn => ?_, rfl⟩
  ·by_cases h0 : len = 0
   ·left; subst h0; rfl
   ·right
    have h00 := (hx 0 (by omega)).1
    have ha : a = ⟨a.block, a.off, none⟩ := addr_none (a := a) (by simpa [Addr.add] using h00)
    refine ⟨a.block, a.off, by rw [← ha], ?_, fun i y hi => ?_⟩
    ·show lvl x .imm; trivial
    ·rw [List.getElem?_map] at hi
     by_cases hil : i < len
     ·rw [List.getElem?_range hil] at hi
      simp only [Option.map_some, Option.some.injEq] at hi
      have := (hx i (by omega)).1
      rw [ha, Addr.add_none] at this
      show W.cell? _ = _
      rw [this, (hz i hil).1, hi]
     ·rw [List.getElem?_eq_none (by simpa using hil)] at hi; cases hi
  ·obtain ⟨i, hi, rfl⟩ := List.mem_map.1 hn
   exact (hz i (List.mem_range.1 hi)).2
theorem readCt {fuel : Nat} {t : TypeId} {c : Ct} {v : Value} {x : DataW H × List MemPlace} (hc : ctB P t c = true) (h : DataW.trod enc P W 0 sp held fuel t [v] = some x) : ∃ cl, CellV (IntsI W) c cl v ∧ wfCl c cl ∧ v.oneCell' = true := by
 cases c with
 | int k =>
  simp only [ctB] at hc
  split at hc
  ·rename_i k' hu
   have := of_decide_eq_true hc
   subst this
   obtain ⟨n, h1, h2⟩ := trodInt hu h
   exact ⟨.i n, h1, h2, by rw [h1]; rfl⟩
  ·cases hc
 | bool =>
  simp only [ctB] at hc
  split at hc
  ·rename_i hu
   obtain ⟨b, h1, _⟩ := DataW.trod_bool hu h
   cases h1
   exact ⟨.b b, rfl, trivial, rfl⟩
  ·cases hc
 | str =>
  simp only [ctB] at hc
  split at hc
  ·rename_i hu
   obtain ⟨b, h1, _, h2⟩ := DataW.trod_string hu h
   cases h1
   exact ⟨.s b, rfl, h2, rfl⟩
  ·cases hc
 | ints k =>
  simp only [ctB] at hc
  split at hc
  ·rename_i e hu
   rw [Bool.and_eq_true] at hc
   obtain ⟨h1, h2⟩ := hc
   split at h2
   ·rename_i k' he
    have := of_decide_eq_true h2
    subst this
    obtain ⟨xs, a, b, c, d⟩ := readInts hu (Nat.eq_of_beq_eq_true h1) he h
    exact ⟨.l xs, a, ⟨b, c⟩, d⟩
   ·cases h2
  ·cases hc
/-- a struct's fields, one behind the other -/
def elF (P : Program) (g : TypeId → List Ct → Bool) : Nat → List Field → List Ct → Bool
 | _, [], [] => true
 | k, f :: fs, e => Nat.beq f.offset k && Nat.ble 1 (P.cellsOf f.type) && Nat.ble (P.cellsOf f.type) e.length && g f.type (e.take (P.cellsOf f.type)) && elF P g (k + P.cellsOf f.type) fs (e.drop (P.cellsOf f.type))
 | _, _, _ => false
def elD (P : Program) : Nat → TypeId → List Ct → Bool
 | 0, _, _ => false
 | d + 1, t, e => Nat.beq (P.cellsOf t) e.length && (match P.underlying t with
  | some (.struct fs) => elF P (elD P d) 0 fs.toList e
  | _ => (match e with | [c] => ctB P t c | _ => false))
def elB (P : Program) (t : TypeId) (e : List Ct) : Bool := elD P 4 t e
theorem elB_len {t : TypeId} {e : List Ct} (h : elB P t e = true) : P.cellsOf t = e.length := by
 unfold elB elD at h
 rw [Bool.and_eq_true] at h
 exact Nat.eq_of_beq_eq_true h.1
theorem elF_get {g : TypeId → List Ct → Bool} : ∀ {fs : List Field} {e : List Ct} {k : Nat}, elF P g k fs e = true → ∀ j, j < e.length → ∃ (m : Nat) (f : Field) (o : Nat), fs[m]? = some f ∧ f.offset = k + o ∧ o ≤ j ∧ j < o + P.cellsOf f.type ∧ o + P.cellsOf f.type ≤ e.length ∧ g f.type ((e.drop o).take (P.cellsOf f.type)) = true
 | [], [], k, _, j, h => by cases h
 | [], _ :: _, k, h, _, _ => by cases h
 | f :: fs, e, k, h, j, hj => by
  simp only [elF, Bool.and_eq_true] at h
  obtain ⟨⟨⟨⟨h1, h2⟩, h3⟩, h4⟩, h5⟩ := h
  have h1 := Nat.eq_of_beq_eq_true h1
  have h3 := ble_le h3
  by_cases hlt : j < P.cellsOf f.type
  ·exact ⟨0, f, 0, rfl, by omega, Nat.zero_le _, by omega, by omega, h4⟩
  ·obtain ⟨m, f', o, a, b, c, d, e', g'⟩ := elF_get h5 (j - P.cellsOf f.type) (by rw [List.length_drop]; omega)
   rw [List.length_drop] at e'
   refine ⟨m + 1, f', P.cellsOf f.type + o, a, by omega, by omega, by omega, by omega, ?_⟩
   rw [List.drop_drop] at g'
   exact g'
/-- an element -/
theorem readEl1 : ∀ (d : Nat) {fuel : Nat} {t : TypeId} {e : List Ct} {cs : List Value} {x : DataW H × List MemPlace}, elD P d t e = true → cs.length = e.length → DataW.trod enc P W 0 sp held fuel t cs = some x →
 ∀ (j : Nat) (c : Ct), e[j]? = some c → ∃ v cl, cs[j]? = some v ∧ CellV (IntsI W) c cl v ∧ wfCl c cl ∧ v.oneCell' = true := by
 intro d
 induction d with
 | zero => intro fuel t e cs x he; cases he
 | succ d ih =>
  intro fuel t e cs x he hl h
  unfold elD at he
  rw [Bool.and_eq_true] at he
  obtain ⟨h1, h2⟩ := he
  split at h2
  ·rename_i fs hu
   obtain ⟨xs, n, _, _, _, hlen, hf⟩ := DataW.trod_struct hu h
   intro j c hj
   have hjl := (List.getElem?_eq_some_iff.1 hj).1
   obtain ⟨m, f, o, f1, f2, f3, f4, f5, f6⟩ := elF_get h2 j hjl
   rw [Nat.zero_add] at f2
   have hfl : m < fs.size := by have := (List.getElem?_eq_some_iff.1 f1).1; simpa using this
   have := hf m f (by simpa using f1)
   rw [f2, List.getElem?_eq_getElem (by omega)] at this
   obtain ⟨v, cl, a1, a2⟩ := ih f6 (by simp; omega) this (j - o) c (by rw [List.getElem?_take, if_pos (by omega), List.getElem?_drop, show o + (j - o) = j by omega]; exact hj)
   rw [List.getElem?_take, if_pos (by omega), List.getElem?_drop, show o + (j - o) = j by omega] at a1
   exact ⟨v, cl, a1, a2⟩
  ·split at h2
   ·rename_i c
    match cs, hl with
    | [v], _ =>
     intro j c' hj
     cases j with
     | zero => cases hj; obtain ⟨cl, g1, g2⟩ := readCt h2 h; exact ⟨v, cl, rfl, g1, g2⟩
     | succ j => simp at hj
   ·cases h2
theorem readEl {fuel : Nat} {t : TypeId} {e : List Ct} {cs : List Value} {x : DataW H × List MemPlace} (he : elB P t e = true) (hl : cs.length = e.length) (h : DataW.trod enc P W 0 sp held fuel t cs = some x) :
 ∃ xl : List Cl, xl.length = e.length ∧ ∀ (j : Nat) (c : Ct), e[j]? = some c → ∃ v cl, cs[j]? = some v ∧ xl[j]? = some cl ∧ CellV (IntsI W) c cl v ∧ wfCl c cl ∧ v.oneCell' = true := by
 have gather : (∀ (j : Nat) (c : Ct), e[j]? = some c → ∃ v cl, cs[j]? = some v ∧ CellV (IntsI W) c cl v ∧ wfCl c cl ∧ v.oneCell' = true) → ∃ xl : List Cl, xl.length = e.length ∧ ∀ (j : Nat) (c : Ct), e[j]? = some c → ∃ v cl, cs[j]? = some v ∧ xl[j]? = some cl ∧ CellV (IntsI W) c cl v ∧ wfCl c cl ∧ v.oneCell' = true := by
  intro hall
  have : ∀ m, m ≤ e.length → ∃ xl : List Cl, xl.length = m ∧ ∀ (j : Nat) (c : Ct), j < m → e[j]? = some c → ∃ v cl, cs[j]? = some v ∧ xl[j]? = some cl ∧ CellV (IntsI W) c cl v ∧ wfCl c cl ∧ v.oneCell' = true := by
   intro m
   induction m with
   | zero => intro _; exact ⟨[], rfl, fun j c h => by omega⟩
   | succ m ih =>
    intro hm
    obtain ⟨xl, a1, a2⟩ := ih (by omega)
    obtain ⟨v, cl, b1, b2, b3⟩ := hall m _ (List.getElem?_eq_getElem (by omega))
    refine ⟨xl ++ [cl], by simp [a1], fun j c hj hc => ?_⟩
    by_cases hjm : j < m
    ·obtain ⟨v', cl', d1, d2, d3⟩ := a2 j c hjm hc
     exact ⟨v', cl', d1, by rw [List.getElem?_append_left (by omega)]; exact d2, d3⟩
    ·have : j = m := by omega
     subst this
     rw [List.getElem?_eq_getElem (by omega)] at hc
     cases hc
     exact ⟨v, cl, b1, by rw [List.getElem?_append_right (by omega), a1]; simp, b2, b3⟩
  obtain ⟨xl, a1, a2⟩ := this e.length (Nat.le_refl _)
  exact ⟨xl, a1, fun j c hc => a2 j c (List.getElem?_eq_some_iff.1 hc).1 hc⟩
 exact gather (readEl1 4 he hl h)
/-- a content whose numbers are in their ranges -/
def wfQ (e : List Ct) (q : Sq) : Prop := q.len ≤ maxLen ∧ ∀ (i j : Nat) (t : Ct), i < q.len → e[j]? = some t → ∃ c, (q.get i)[j]? = some c ∧ wfCl t c
/-- a slice -/
theorem readSl {fuel : Nat} {t el : TypeId} {e : List Ct} {v : Value} {x : DataW H × List MemPlace} (ht : P.underlying t = some (.slice el)) (he : elB P el e = true) (hne : e ≠ []) (h : DataW.trod enc P W 0 sp held fuel t [v] = some x) :
 ∃ q, (∀ a b, TrV (immG W) a b e q v) ∧ q.fits e = true ∧ wfQ e q ∧ v.oneCell' = true := by
 have hce : P.cellsOf el = e.length := elB_len he
 rcases Deep.open_slice ht h with ⟨h0, _⟩ | ⟨a, len, cap, m, n, D, Pl, h0, _, hl, hm, hmm, _, hx⟩
 ·cases h0
  refine ⟨Sq.nil e, fun a b => ⟨none, 0, by rw [Sq.len_nil], ⟨Sq.nil_fits hne, by rw [Sq.len_nil]; exact Nat.le_refl _⟩, .inl (Sq.len_nil e)⟩, Sq.nil_fits hne, ⟨by rw [Sq.len_nil]; simp [maxLen], fun i j t hi => by rw [Sq.len_nil] at hi; omega⟩, rfl⟩
 ·cases h0
  have hlm : len ≤ m := by rw [hmm]; split <;> omega
  obtain ⟨els, hels⟩ := Deep.choose_lt (α := List Cl) (n := len) (p := fun i xl => xl.length = e.length ∧ ∀ (j : Nat) (c : Ct), e[j]? = some c → ∃ v cl, W.cell? (a.add (i * e.length + j)) = some v ∧ xl[j]? = some cl ∧ CellV (IntsI W) c cl v ∧ wfCl c cl ∧ v.oneCell' = true) (fun i hi => by
   obtain ⟨cs', h1, h2⟩ := hx i (by omega)
   rw [hce] at h1
   obtain ⟨_, hlen, hget⟩ := World.cells?_some h1
   obtain ⟨xl, g1, g2⟩ := readEl he hlen h2
   refine ⟨xl, g1, fun j c hj => ?_⟩
   obtain ⟨v, cl, d1, d2⟩ := g2 j c hj
   refine ⟨v, cl, ?_, d2⟩
   have := hget j (List.getElem?_eq_some_iff.1 hj).1
   rw [Deep.add_add, d1] at this
   exact this)
  have hof := Sq.ofEls_ok (e := e) (xs := (List.range len).map els) hne (fun xl hxl => by
   obtain ⟨i, hi, rfl⟩ := List.mem_map.1 hxl
   exact (hels i (List.mem_range.1 hi)).1) (fun xl hxl j t hj => by
   obtain ⟨i, hi, rfl⟩ := List.mem_map.1 hxl
   obtain ⟨v, cl, _, d2, d3, _⟩ := (hels i (List.mem_range.1 hi)).2 j t hj
   exact ⟨cl, v, _, d2, d3⟩)
  obtain ⟨o1, o2, o3⟩ := hof
  simp only [List.length_map, List.length_range] at o1
  have hget : ∀ (i j : Nat) (t : Ct), i < len → e[j]? = some t → ∃ v c, W.cell? (a.add (i * e.length + j)) = some v ∧ ((Sq.ofEls e ((List.range len).map els)).get i)[j]? = some c ∧ CellV (IntsI W) t c v ∧ wfCl t c := by
   intro i j t hi hj
   obtain ⟨v, cl, d1, d2, d3, d4, _⟩ := (hels i hi).2 j t hj
   refine ⟨v, cl, d1, ?_, d3, d4⟩
   rw [o3 i (els i) (by rw [List.getElem?_map, List.getElem?_range hi]; rfl) j t hj]
   exact d2
  refine ⟨Sq.ofEls e ((List.range len).map els), fun x y => ⟨some a, cap, by rw [o1], ⟨o2, by rw [o1]; exact hl⟩, ?_⟩, o2, ⟨by rw [o1]; omega, fun i j t hi hj => ?_⟩, rfl⟩
  ·rw [o1]
   by_cases h0 : len = 0
   ·exact .inl h0
   ·right
    obtain ⟨t0, ht0⟩ : ∃ t0, e[0]? = some t0 := by cases e with | nil => exact absurd rfl hne | cons t ts => exact ⟨t, rfl⟩
    obtain ⟨v0, _, h00, _⟩ := hget 0 0 t0 (by omega) ht0
    have ha : a = ⟨a.block, a.off, none⟩ := addr_none (a := a) (by simpa [Addr.add] using h00)
    refine ⟨a.block, a.off, by rw [← ha], trivial, fun i j t hi hj => ?_⟩
    rw [o1] at hi
    obtain ⟨v, c, d1, d2, d3, _⟩ := hget i j t hi hj
    refine ⟨v, c, ?_, d2, d3.mono fun k xs v hh => hh y⟩
    rw [ha, Addr.add_none] at d1
    exact d1
  ·rw [o1] at hi
   obtain ⟨v, c, _, d2, _, d4⟩ := hget i j t hi hj
   exact ⟨c, d2, d4⟩
/-! ### arguments -/
theorem cellsFlat {r : Reach} {b0 : Nat} {t : TypeId} {v : Value} (hval : Value.okWide P W r b0 t v) {d : TypeDesc} (hu : P.underlying t = some d) (hd : (match d with | .bool => true | .int _ => true | .string => true | .slice _ => true | _ => false) = true) : v.cells.toList = [v] := by
 unfold Value.okWide at hval
 rw [hu] at hval
 cases d <;> simp only [Bool.false_eq_true] at hd <;> simp only [Cell.okWide, hu] at hval <;> cases v <;> first | rfl | (simp only [Cell.ok, hu] at hval)
theorem argFlat {r : Reach} {b0 : Nat} {t : TypeId} {v : Value} {d : DataW H} {ps : List MemPlace} (hval : Value.okWide P W r b0 t v) {dd : TypeDesc} (hu : P.underlying t = some dd) (hd : (match dd with | .bool => true | .int _ => true | .string => true | .slice _ => true | _ => false) = true)
 (h : DataW.Trod enc P W 0 sp held t v d ps) : ∃ n, DataW.trod enc P W 0 sp held n t [v] = some (d, ps) := by
 obtain ⟨n, h⟩ := h
 rw [cellsFlat hval hu hd] at h
 exact ⟨n, h⟩
/-- a struct's fields, one by one -/
theorem argStruct {r : Reach} {b0 : Nat} {t : TypeId} {v : Value} {d : DataW H} {ps : List MemPlace} {fs : Array Field} (hval : Value.okWide P W r b0 t v) (hu : P.underlying t = some (.struct fs)) (h : DataW.Trod enc P W 0 sp held t v d ps) :
 ∃ vs : List Value, v = .agg vs.toArray ∧ vs.length = P.cellsOf t ∧ ∀ (j : Nat) (f : Field) (u : Value), fs[j]? = some f → vs[f.offset]? = some u → P.cellsOf f.type = 1 → ∃ n x, DataW.trod enc P W 0 sp held n f.type [u] = some x := by
 unfold Value.okWide at hval
 rw [hu] at hval
 obtain ⟨cs, rfl, hsz, _⟩ := hval
 obtain ⟨n, h⟩ := h
 have h : DataW.trod enc P W 0 sp held n t cs.toList = some (d, ps) := h
 obtain ⟨xs, m, _, _, hlen, hxs, hf⟩ := DataW.trod_struct hu h
 refine ⟨cs.toList, by simp, hlen, fun j f u hj hu1 hc => ?_⟩
 have := hf j f hj
 have hlt := (List.getElem?_eq_some_iff.1 hu1).1
 rw [hc, List.drop_eq_getElem_cons hlt] at this
 simp only [List.take_succ_cons, List.take_zero] at this
 rw [(List.getElem?_eq_some_iff.1 hu1).2] at this
 have hjl : j < xs.length := by rw [hxs]; exact (Array.getElem?_eq_some_iff.1 hj).1
 rw [List.getElem?_eq_getElem hjl] at this
 exact ⟨m, _, this⟩
theorem RVs.nil (G : Gh) : RVs G [] [] := ⟨rfl, fun j c h => by simp at h⟩
theorem RVs.cons {G : Gh} {c : C} {cs : List C} {v : Value} {vs : List Value} (h : RV G c v) (h1 : v.oneCell' = true) (hs : RVs G cs vs) : RVs G (c :: cs) (v :: vs) := by
 refine ⟨by simp [hs.1], fun j c' hj => ?_⟩
 cases j with
 | zero => cases hj; exact ⟨v, rfl, h, h1⟩
 | succ j => exact hs.2 j c' hj
/-- the arguments read as they did -/
theorem trodAll_below (hl : laidOutB P = true) {W' : World} (hb : RowKit.Below W.heap.size W W') : ∀ {ts : List TypeId} {vs : List Value} {ds : List (DataW H)} {ps : List MemPlace}, (ts.all fun t => P.readableRec t && decide (t < P.types.size)) = true →
 DataW.TrodAll enc P W 0 (fun _ => true) true ts vs ds ps → (∀ x ∈ ps, x.block < W.heap.size) → DataW.TrodAll enc P W' 0 (fun b => decide (b < W.heap.size)) true ts vs ds ps
 | [], [], [], ps, _, h, _ => h
 | t :: ts, v :: vs, d :: ds, ps, ht, h, hlt => by
  obtain ⟨p, q, h1, h2, rfl⟩ := h
  simp only [List.all_cons, Bool.and_eq_true, decide_eq_true_eq] at ht
  exact ⟨p, q, RowKit.Below.trod hl ht.1.1 ht.1.2 h1 hb (fun x hx => hlt x (List.mem_append_left _ hx)), trodAll_below hl hb ht.2 h2 (fun x hx => hlt x (List.mem_append_right _ hx)), rfl⟩
 | [], _ :: _, _, _, _, h, _ => by cases h
 | [], [], _ :: _, _, _, h, _ => by cases h
 | _ :: _, [], _, _, _, h, _ => by cases h
 | _ :: _, _ :: _, [], _, _, h, _ => by cases h
theorem calls_of {f : FuncId} {fn : Func} {vals : Array Value} {w : World} {R : Value → World → Prop} (hf : P.funcs[f]? = some fn) (hb : fn.body.isSome = true) (hn : (fn.name == "runtime.NumGoroutine") = false) (h : CallsF P f vals w R) :
 Calls P f vals w fun | .returned v, w' => R v w' | _, _ => False := by
 rcases h with ⟨_, h⟩ | ⟨v, w', h, _⟩
 ·exact h
 ·exfalso
  have hn : fn.name ≠ "runtime.NumGoroutine" := by simpa using hn
  obtain ⟨c, hc⟩ := Option.isSome_iff_exists.1 hb
  simp [callFunc, hf, hn, hc] at h
/-- a law: it answers true, and turns nothing that was there -/
theorem law_calls {f : FuncId} {fn : Func} {tmpl : St} {run : List Lf → (Res → Option Res) → Option Res} {xs : List TV} {vals : Array Value} (hcon : Con P (f, tmpl, run)) (hf : P.funcs[f]? = some fn) (hb : fn.body.isSome = true) (hn : (fn.name == "runtime.NumGoroutine") = false)
 (he : EnvOk (immG W)) (hlike : (argSt xs [] []).like tmpl = true) (hrun : ∃ res : Res, run (argSt xs [] []).leaves some = some res ∧ res.val = [⟨false, [.bool true]⟩]) (hlen : vals.size = xs.length) (hv : ∀ (j : Nat) (x : TV), xs[j]? = some x → ∃ v, vals[j]? = some v ∧ TVV (immG W) x v) :
 Calls P f vals W fun e W' => e = .returned (.bool true) ∧ RowKit.Below W.heap.size W W' := by
 obtain ⟨res, h1, h2⟩ := hrun
 obtain ⟨res', k1, _, k3⟩ := hcon xs [] [] some res (by simp only [hlike, cond_true]; exact h1)
 have := Option.some.inj k1
 subst this
 have hA : ArgsOk (immG W) xs [] [] vals := ⟨he, hlen, hv, fun j R h => by simp at h, fun j cs h => by simp at h, fun b n h => by cases h⟩
 refine (calls_of hf hb hn (k3 (immG W) vals hA)).mono fun e w' he => ?_
 cases e with
 | returned v =>
  obtain ⟨G', rfl, hs, hr⟩ := he
  have hval := hr.val
  rw [resTV, h2] at hval
  obtain ⟨c, hc, hv⟩ := hval
  cases hc
  have hv : v = .bool true := hv
  exact ⟨by rw [hv], ⟨hs.os, hs.tape, hs.output, hs.size, fun k hk => (hs.blk k hk (fun n h => by cases h)).1⟩⟩
 | panicked _ => exact he.elim
 | outgrown => exact he.elim
/-- nothing is asked of the world -/
@[reducible] def envT (kl : List FuncId) : Env := ⟨kl, fun _ _ => True, fun _ _ _ => trivial⟩
end Go.Tv
set_option autoImplicit false
namespace Go.Tv
open Go
theorem w64 {n : Int} (h : -9223372036854775808 ≤ n ∧ n ≤ 9223372036854775807) : IntKind.i64.wrap n = n := by rw [IntKind.wrap_i64]; omega
theorem w64_le (n : Int) : -9223372036854775808 ≤ IntKind.i64.wrap n ∧ IntKind.i64.wrap n ≤ 9223372036854775807 := by rw [IntKind.wrap_i64]; omega
/-- a number that a mask has passed -/
theorem and_le (x : Int) (m : Nat) (hm : m ≤ 9223372036854775807) : 0 ≤ arith.bits .and .i64 x (m : Int) ∧ arith.bits .and .i64 x (m : Int) ≤ m := by
 have hb : (BitVec.ofInt 64 (m : Int)).toNat = m := by
  rw [BitVec.toNat_ofInt]; omega
 have h1 : (BitVec.ofInt 64 x &&& BitVec.ofInt 64 (m : Int)).toNat ≤ m := by
  rw [BitVec.toNat_and, hb]; exact Nat.and_le_right
 have e : arith.bits .and .i64 x (m : Int) = IntKind.i64.wrap ((BitVec.ofInt 64 x &&& BitVec.ofInt 64 (m : Int)).toNat : Int) := rfl
 rw [e, w64 (by omega)]
 omega
theorem len_cons {α : Type} {l : List α} {n : Nat} (h : l.length = n + 1) : ∃ a t, l = a :: t ∧ t.length = n := by
 cases l with
 | nil => cases h
 | cons a t => exact ⟨a, t, rfl, Nat.succ.inj h⟩
theorem len_nil {α : Type} {l : List α} (h : l.length = 0) : l = [] := List.length_eq_zero_iff.1 h
theorem fuel_split (k : Nat) (hk : k ≤ 9223372036854775808) : ∃ m, fuel = m + k ∧ 9223372036854775808 ≤ m := ⟨fuel - k, by rw [fuel_eq]; omega, by rw [fuel_eq]; omega⟩
end Go.Tv
set_option autoImplicit false
namespace Go.Tv
open Go
theorem up {N : Nat} {P : Nat → Nat → Prop} (hend : ∀ n, P (n + 1) N) (hstep : ∀ n i, i < N → P n (i + 1) → P (n + 1) i) : ∀ n i, N - i < n → i ≤ N → P n i := by
 intro n
 induction n with
 | zero => intro i h; omega
 | succ n ih =>
  intro i hn hi
  by_cases h : i = N
  ·subst h; exact hend n
  ·exact hstep n i (by omega) (ih (i + 1) (by omega) (by omega))
theorem up0 {N : Nat} {P : Nat → Nat → Prop} (hN : N ≤ 9223372036854775808) (hend : ∀ n, P (n + 1) N) (hstep : ∀ n i, i < N → P n (i + 1) → P (n + 1) i) (i : Nat) (hi : i ≤ N) : P fuel i :=
 up hend hstep fuel i (by rw [fuel_eq]; omega) hi
theorem ixl {i N : Nat} (h : i < N) : decide ((i : Int) < (N : Int)) = true := by simp; omega
theorem ixe {N : Nat} : decide ((N : Int) < (N : Int)) = false := by simp
theorem ix0 {i : Nat} : decide (0 ≤ (i : Int)) = true := by simp
theorem ixw {i : Nat} (h : i < 9223372036854775807) : IntKind.i64.wrap ((i : Int) + 1) = ((i + 1 : Nat) : Int) := by rw [w64 (by omega)]; rfl
/-- numbers in a row from a first one on -/
def cnt (f : Int → Int) (y : Int) : Nat → List Int
 | 0 => []
 | n + 1 => f y :: cnt f (y + 1) n
theorem cnt_length (f : Int → Int) (n : Nat) : ∀ y, (cnt f y n).length = n := by
 induction n with
 | zero => intro y; rfl
 | succ n ih => intro y; simp [cnt, ih]
theorem cnt_get (f : Int → Int) (n : Nat) : ∀ y i, i < n → (cnt f y n)[i]? = some (f (y + i)) := by
 induction n with
 | zero => intro y i h; omega
 | succ n ih =>
  intro y i h
  cases i with
  | zero => simp [cnt]
  | succ i => simp only [cnt, List.getElem?_cons_succ]; rw [ih _ _ (by omega)]; congr 2; omega
theorem getD_of {α : Type} {l : List α} {i : Nat} {x d : α} (h : l[i]? = some x) : l.getD i d = x := by rw [List.getD_eq_getElem?_getD, h]; rfl
theorem list_eq {α : Type} {a b : List α} (h : a.length = b.length) (hp : ∀ j, j < a.length → a[j]? = b[j]?) : a = b := by
 apply List.ext_getElem?
 intro j
 by_cases hj : j < a.length
 ·exact hp j hj
 ·rw [List.getElem?_eq_none (by omega), List.getElem?_eq_none (by omega)]
theorem set_pre {α : Type} {l a : List α} {i : Nat} {x : α} (hl : l.length = a.length) (hi : i < a.length) (hx : a[i]? = some x) (hp : ∀ j, j < i → l[j]? = a[j]?) : ∀ j, j < i + 1 → (l.set i x)[j]? = a[j]? := by
 intro j hj
 simp only [List.getElem?_set]
 by_cases h : i = j
 ·subst h; rw [if_pos rfl, if_pos (by omega), hx]
 ·rw [if_neg h]; exact hp j (by omega)
theorem getD_lt {α : Type} {l : List α} {i : Nat} (d : α) (h : i < l.length) : l[i]? = some (l.getD i d) := by
 rw [List.getElem?_eq_getElem h, List.getD_eq_getElem?_getD, List.getElem?_eq_getElem h]; rfl
theorem drop_cons {α : Type} {l : List α} {i : Nat} (d : α) (h : i < l.length) : l.drop i = l.getD i d :: l.drop (i + 1) := by
 rw [List.drop_eq_getElem_cons h, List.getD_eq_getElem?_getD, List.getElem?_eq_getElem h]; rfl
theorem cd_t {α : Type} {b : Bool} (h : b = true) (x y : α) : (bif b then x else y) = x := by rw [h]; rfl
theorem cd_f {α : Type} {b : Bool} (h : b = false) (x y : α) : (bif b then x else y) = y := by rw [h]; rfl
end Go.Tv
set_option autoImplicit false
namespace Go.Tv
open Go
variable [Env]
variable {P : Program}
abbrev O := Option Res
noncomputable def seal_ {α : Sort _} (x : α) : α := Classical.choose (⟨x, rfl⟩ : ∃ y, y = x)
theorem seal_eq {α : Sort _} (x : α) : seal_ x = x := Classical.choose_spec (⟨x, rfl⟩ : ∃ y, y = x)
abbrev cI (n : Int) : C := .int .i64 n
abbrev oI (n : Int) : TV := one (.int .i64 n)
/-- a leaf's kind -/
inductive Sg where
 | i | b | s | n | z | c | t | l
def Sg.D : Sg → Type
 | .i => Int | .b => Bool | .s => ByteArray | .n => Nat | .z => List Int | .c => List Bool | .t => List ByteArray | .l => List (List Cl)
def Sg.d : (k : Sg) → k.D
 | .i => (0 : Int) | .b => false | .s => ByteArray.empty | .n => (0 : Nat) | .z => ([] : List Int) | .c => ([] : List Bool) | .t => ([] : List ByteArray) | .l => ([] : List (List Cl))
def Sg.lf : (k : Sg) → k.D → Lf
 | .i, x => .i x | .b, x => .b x | .s, x => .s x | .n, x => .n x | .z, x => .q (.ints x) | .c, x => .q (.bools x) | .t, x => .q (.strs x) | .l, x => .q (.cells x)
def Sg.of : (k : Sg) → Lf → Option k.D
 | .i, .i x => some x | .b, .b x => some x | .s, .s x => some x | .n, .n x => some x
 | .z, .q (.ints x) => some x | .c, .q (.bools x) => some x | .t, .q (.strs x) => some x | .l, .q (.cells x) => some x
 | _, _ => none
theorem Sg.of_eq {k : Sg} {x : Lf} {y : k.D} (h : k.of x = some y) : x = k.lf y := by
 cases k <;> cases x <;> first | (cases h; rfl) | skip
 all_goals (rename_i q; cases q <;> cases h <;> rfl)
def Fn : List Sg → Type → Type
 | [], R => R
 | k :: l, R => k.D → Fn l R
def Vs : List Sg → Type
 | [] => Unit
 | k :: l => k.D × Vs l
def ap {R : Type} : (l : List Sg) → Fn l R → Vs l → R
 | [], f, _ => f
 | _ :: l, f, v => ap l (f v.1) v.2
def cur {R : Type} : (l : List Sg) → (Vs l → R) → Fn l R
 | [], f => f ()
 | _ :: l, f => fun x => cur l fun v => f (x, v)
theorem ap_cur {R : Type} : ∀ (l : List Sg) (f : Vs l → R) (v : Vs l), ap l (cur l f) v = f v
 | [], _, _ => rfl
 | _ :: l, f, v => ap_cur l (fun w => f (v.1, w)) v.2
theorem cur_inj {R : Type} {l : List Sg} {f g : Vs l → R} (h : cur l f = cur l g) (v : Vs l) : f v = g v := by rw [← ap_cur l f, h, ap_cur]
def lfs : (l : List Sg) → Vs l → List Lf
 | [], _ => []
 | k :: l, v => k.lf v.1 :: lfs l v.2
def dumV : (l : List Sg) → Vs l
 | [] => ()
 | k :: l => (k.d, dumV l)
def vals : (l : List Sg) → List Lf → Option (Vs l)
 | [], [] => some ()
 | k :: l, x :: xs => match k.of x, vals l xs with
  | some y, some v => some (y, v)
  | _, _ => none
 | _, _ => none
theorem vals_eq : ∀ {l : List Sg} {xs : List Lf} {v : Vs l}, vals l xs = some v → xs = lfs l v
 | [], [], _, _ => rfl
 | k :: l, x :: xs, v, h => by
  unfold vals at h
  split at h
  ·rename_i y v' h1 h2
   cases h
   rw [Sg.of_eq h1, vals_eq h2]; rfl
  ·cases h
 | [], _ :: _, _, h => by cases h
 | _ :: _, [], _, h => by cases h
/-! ### functions -/
theorem vals_none_run {S T : List Sg} {g : Fn S (Fn T O → O)} (h : g = cur S fun _ _ => none) (v : Vs S) (k : Fn T O) : ap S g v k = none := by rw [h, ap_cur]
def post (T : List Sg) (m : Fn T Res) (K : Res → O) : Fn T O := cur T fun v => K (ap T m v)
def conOf (f : FuncId) (S T : List Sg) (a : Fn S St) (g : Fn S (Fn T O → O)) (m : Fn S (Fn T Res)) : FuncId × St × (List Lf → (Res → O) → O) :=
 (f, ap S a (dumV S), fun l K => match vals S l with | some v => ap S g v (post T (ap S m v) K) | none => none)
def entS (n : Nat) (st : St) : St := entry n st.tmps (st.rows.map (·.2)) (st.boxes.map (·.2))
theorem entS_arg (n : Nat) (as : List TV) (rows : List Row) (boxes : List (List C)) : entS n (argSt as rows boxes) = entry n as rows boxes := by
 simp [entS, argSt, List.map_map, Function.comp_def]
inductive Cons (P : Program) : List (FuncId × St × (List Lf → (Res → O) → O)) → Prop
 | nil : Cons P []
 | cons {p : FuncId × St × (List Lf → (Res → O) → O)} {l : List (FuncId × St × (List Lf → (Res → O) → O))} : Con P p → Cons P l → Cons P (p :: l)
theorem Cons.all {l : List (FuncId × St × (List Lf → (Res → O) → O))} (h : Cons P l) : ∀ p ∈ l, Con P p := by
 induction h with
 | nil => intro p hp; cases hp
 | cons h _ ih =>
  intro p hp
  rcases List.mem_cons.1 hp with rfl | hp
  ·exact h
  ·exact ih p hp
theorem ctx_of {Γ : List (Nat × TI)} {byt eqs : List TypeId} {X : (Res → O) → Ctx} {os : List (FuncId × St × (List Lf → (Res → O) → O))} (ho : Cons P os)
 (h : (fun K => ((X K).Γ, (X K).byt, (X K).orc, (X K).eqs, (X K).kl, (X K).own.all fun p => Nat.ble (p.2.2.1 + 1) 8)) = fun _ => (Γ, byt, orcOf os, eqs, Env.kl, true)) (K : Res → O) : CtxOk P Γ byt eqs (X K) os := by
 have h := congrFun h K
 simp only [Prod.mk.injEq] at h
 obtain ⟨h1, h2, h3, h4, h5, h6⟩ := h
 exact ⟨h1, h2, h3, ho.all, h4, h5, h6⟩
inductive LpAll (P : Program) (X : Ctx) : List (Nat × Code) → Prop
 | nil : LpAll P X []
 | cons {id : Nat} {b : Code} {l : List (Nat × Code)} : LpSound P X id b → LpAll P X l → LpAll P X ((id, b) :: l)
theorem LpAll.all {X : Ctx} {l : List (Nat × Code)} (h : LpAll P X l) : ∀ p ∈ l, LpSound P X p.1 p.2 := by
 induction h with
 | nil => intro p hp; cases hp
 | cons h _ ih =>
  intro p hp
  rcases List.mem_cons.1 hp with rfl | hp
  ·exact h
  ·exact ih p hp
theorem con_fin {Γ : List (Nat × TI)} {byt eqs : List TypeId} {f : FuncId} {fn : Func} {c : Code} {Fi : Fin} {X : (Res → O) → Ctx} {S T : List Sg} {a : Fn S St} {g b : Fn S (Fn T O → O)} {m : Fn S (Fn T Res)}
 {ls : List (Nat × Code)} {os : List (FuncId × St × (List Lf → (Res → O) → O))} (hL : Laid P Γ byt eqs) (hx : ∀ K, CtxOk P Γ byt eqs (X K) os) (hl : ∀ K, LpAll P (X K) ls) (hg : g = b)
 (h1 : (P.funcs[f]?, fn.body, fn.name == "runtime.NumGoroutine", Fi.res.map (·.1), finB Fi, loopsOf c, Fi.Γ) = (some fn, some c, false, fn.results.toList, true, ls, Γ))
 (h2 : (fun K => ((X K).fin, (X K).nk)) = fun K => (finK Fi K, !Env.kl.any (Nat.beq f)))
 (h3 : (cur S fun v => ((ap S a v).like (ap S a (dumV S)), (ap S a v).leaves)) = cur S fun v => (true, lfs S v))
 (h4 : (fun K => cur S fun v => exec (X K) c (entS fn.ntmps (ap S a v)) (endK (X K))) = fun K => cur S fun v => ap S b v (post T (ap S m v) K)) : Con P (conOf f S T a g m) := by
 simp only [Prod.mk.injEq] at h1
 obtain ⟨e1, e2, e3, e4, e5, e6, e7⟩ := h1
 have h2 := fun K => congrFun h2 K
 simp only [Prod.mk.injEq] at h2
 refine con_of (fun_of (l := os) hL e1 e2 e3 e7 e4 e5 hx (fun K => (h2 K).1) (fun K => (h2 K).2) (fun K => by rw [e6]; exact (hl K).all)) fun as rows boxes K r hl' hr => ?_
 split at hr
 ·rename_i v hv
  have e := cur_inj h3 v
  simp only [Prod.mk.injEq] at e
  have := St.like_eq hl' e.1 ((vals_eq hv).trans e.2.symm)
  have t := cur_inj (congrFun h4 K) v
  rw [← this, entS_arg] at t
  rw [t, ← hg]
  exact hr
 ·cases hr
theorem con_cst {f : FuncId} {S T : List Sg} {a : Fn S St} {g : Fn S (Fn T O → O)} {m : Fn S (Fn T Res)} (h : g = cur S fun _ _ => none) : Con P (conOf f S T a g m) := con_none fun l K => by
 show (match vals S l with | some v => ap S g v (post T (ap S m v) K) | none => none) = none
 split
 ·exact vals_none_run h _ _
 ·rfl
/-- a function that takes several slices at once: by the one that takes a slice of them -/
theorem con_bn {f : FuncId} {S : List Sg} {k : IntKind} {a : Fn S St} {g b : Fn S ((List Int → O) → O)} {m : Fn S (List Int → Res)} {t1 : St} {run1 : List Lf → (Res → O) → O} (hg : g = b) (h : Con P (f, t1, run1))
 (ht : ∀ L, (argSt [one (.tr 2 0 [.ints k] (.cells L))] [] []).like t1 = true) (L : Vs S → List (List Int))
 (h3 : (cur S fun v => (ap S a v, (ap S a v).like (ap S a (dumV S)), (ap S a v).leaves)) = cur S fun v => (argSt [.bn ((L v).map fun xs => .tr 0 1 [.int k] (.ints xs))] [] [], true, lfs S v))
 (h4 : (fun K => cur S fun v => ap S b v fun r => K (ap S m v r)) = fun K => cur S fun v => run1 [.q (.cells ((L v).map fun xs => [Cl.l xs]))] K) : Con P (conOf f S [.z] a g m) := by
 intro as rows boxes K r hr
 cases hl : (argSt as rows boxes).like (ap S a (dumV S)) with
 | false => simp only [conOf, hl, cond_false] at hr; cases hr
 | true =>
  simp only [conOf, hl, cond_true] at hr
  split at hr
  ·rename_i v hv
   have e := cur_inj h3 v
   simp only [Prod.mk.injEq] at e
   have := St.like_eq hl e.2.1 ((vals_eq hv).trans e.2.2.symm)
   rw [e.1] at this
   obtain ⟨rfl, rfl, rfl⟩ := argSt_inj this
   rw [hg] at hr
   exact bn_sound h ht (L v) ((cur_inj (congrFun h4 K) v).symm.trans hr)
  ·cases hr
/-! ### loops -/
theorem St.like_len {x y : St} (h : St.like x y = true) : x.leaves.length = y.leaves.length := by
 obtain ⟨t, r, b⟩ := x
 obtain ⟨t', r', b'⟩ := y
 simp only [St.like, Bool.and_eq_true] at h
 have em : ∀ l : List (Nat × Row), l.map (fun p => Lf.q p.2.q) = l.flatMap fun p => [Lf.q p.2.q] := by
  intro l; induction l with
  | nil => rfl
  | cons x l ih => simp only [List.map_cons, List.flatMap_cons, ih]; rfl
 have h1 := likeL_len (f := TV.like) (l := TV.leaves) (fun x y h => (TV.like_ok h).1) h.1.1
 have h2 := likeL_len (f := fun p q : Nat × Row => Nat.beq p.1 q.1 && Row.like p.2 q.2) (l := fun p : Nat × Row => [Lf.q p.2.q]) (fun x y h => rfl) h.1.2
 have h3 := likeL_len (f := fun p q : Nat × List C => Nat.beq p.1 q.1 && C.like.likeL C.like p.2 q.2) (l := fun p : Nat × List C => p.2.flatMap C.leaves) (fun x y h => by
  rw [Bool.and_eq_true] at h; exact (Cs.like_ok h.2).1) h.2
 simp only [St.leaves, em, List.length_append, h1, h2, h3]
def pm (π : List Nat) (l : List Lf) : List Lf := π.map fun j => l.getD j (.i 0)
theorem pm_inj {π : List Nat} {l m : List Lf} (hl : l.length = m.length) (hc : (List.range m.length).all (fun j => π.any (Nat.beq j)) = true) (h : pm π l = pm π m) : l = m := by
 refine List.ext_getElem hl fun j h1 h2 => ?_
 obtain ⟨j', h3, h4⟩ := List.any_eq_true.1 (List.all_eq_true.1 hc j (List.mem_range.2 h2))
 have := Nat.eq_of_beq_eq_true h4
 subst this
 have h5 := List.map_inj_left.1 h j h3
 rwa [List.getD_eq_getElem?_getD, List.getD_eq_getElem?_getD, List.getElem?_eq_getElem h1, List.getElem?_eq_getElem h2] at h5
def vals2 (F W : List Sg) (l : List Lf) : Option (Vs F × Vs W) := match vals F (l.take F.length), vals W (l.drop F.length) with
 | some u, some v => some (u, v)
 | _, _ => none
noncomputable def ent (id : Nat) (F W : List Sg) (π : List Nat) (s : Fn F (Fn W St)) (l : Fn F ((St → O) → Nat → Fn W O)) : Nat × St × (List Lf → (St → O) → O) :=
 (id, ap W (ap F s (dumV F)) (dumV W), fun x k => match vals2 F W (pm π x) with | some (u, v) => ap W (ap F l u k fuel) v | none => none)
inductive LpEs (P : Program) (X : Ctx) (id : Nat) (b : Code) : List (Nat × St × (List Lf → (St → O) → O)) → Prop
 | nil : LpEs P X id b []
 | skip {p : Nat × St × (List Lf → (St → O) → O)} {l : List (Nat × St × (List Lf → (St → O) → O))} : Nat.beq p.1 id = false → LpEs P X id b l → LpEs P X id b (p :: l)
 | cons {p : Nat × St × (List Lf → (St → O) → O)} {l : List (Nat × St × (List Lf → (St → O) → O))} : (∀ st K r, st.like p.2.1 = true → p.2.2 st.leaves K = some r → ∃ n, iter X id b n st K = some r) → LpEs P X id b l → LpEs P X id b (p :: l)
theorem LpEs.all {X : Ctx} {id : Nat} {b : Code} {l : List (Nat × St × (List Lf → (St → O) → O))} (h : LpEs P X id b l) : ∀ p ∈ l, p.1 = id → ∀ st K r, st.like p.2.1 = true → p.2.2 st.leaves K = some r → ∃ n, iter X id b n st K = some r := by
 induction h with
 | nil => intro p hp; cases hp
 | skip h _ ih =>
  intro p hp
  rcases List.mem_cons.1 hp with rfl | hp
  ·intro e; subst e; rw [Nat.beq_refl] at h; cases h
  ·exact ih p hp
 | cons h _ ih =>
  intro p hp
  rcases List.mem_cons.1 hp with rfl | hp
  ·intro _; exact h
  ·exact ih p hp
theorem lp_fin {Γ : List (Nat × TI)} {byt eqs : List TypeId} {X : Ctx} {id : Nat} {b : Code} {ls : List (Nat × Code)} {L : List (Nat × St × (List Lf → (St → O) → O))} {os : List (FuncId × St × (List Lf → (Res → O) → O))} (hL : Laid P Γ byt eqs) (hx : CtxOk P Γ byt eqs X os)
 (hi : LpAll P X ls) (hs : LpEs P X id b L) (h1 : loopsOf b = ls) (h2 : X.lp = lpOf L) : LpSound P X id b :=
 lp_ok (hx.ok hL) (by rw [h1]; exact hi.all) h2 hs.all
theorem ent_key {X : Ctx} {id : Nat} {b : Code} {F W : List Sg} {s : Fn F (Fn W St)} {l : Fn F ((St → O) → Nat → Fn W O)} (q : Fn F ((St → O) → Fn W O → Fn W O))
 (h2 : (fun k => cur F fun u => ap F l u k 0) = fun _ => cur F fun _ => cur W fun _ => none)
 (h3 : (fun k n => cur F fun u => ap F l u k (n + 1)) = fun k n => cur F fun u => ap F q u k (ap F l u k n))
 (h4 : (fun k it => cur F fun u => cur W fun v => iterS X id b it (ap W (ap F s u) v) k) = fun k it => cur F fun u => ap F q u k (cur W fun v => it (ap W (ap F s u) v) k)) (u : Vs F) (K : St → O) (n : Nat) :
 (cur W fun v => iter X id b n (ap W (ap F s u) v) K) = ap F l u K n := by
 induction n with
 | zero => exact (cur_inj (congrFun h2 K) u).symm
 | succ n ih =>
  rw [cur_inj (congrFun (congrFun h3 K) n) u, ← ih]
  exact cur_inj (congrFun (congrFun h4 K) (iter X id b n)) u
theorem ent_fin {X : Ctx} {id : Nat} {b : Code} {F W : List Sg} {π : List Nat} {s : Fn F (Fn W St)} {l : Fn F ((St → O) → Nat → Fn W O)}
 (key : ∀ (u : Vs F) (K : St → O) (n : Nat), (cur W fun v => iter X id b n (ap W (ap F s u) v) K) = ap F l u K n)
 (h1 : (cur F fun u => cur W fun v => ((ap W (ap F s u) v).like (ent id F W π s l).2.1, pm π (ap W (ap F s u) v).leaves)) = cur F fun u => cur W fun v => (true, lfs F u ++ lfs W v))
 (hc : ((List.range (ent id F W π s l).2.1.leaves.length).all fun j => π.any (Nat.beq j)) = true) :
 ∀ st K r, st.like (ent id F W π s l).2.1 = true → (ent id F W π s l).2.2 st.leaves K = some r → ∃ n, iter X id b n st K = some r := by
 intro st K r hk hr
 unfold ent at hr
 simp only at hr
 split at hr
 ·rename_i u v hv
  unfold vals2 at hv
  split at hv
  ·rename_i u' v' e1 e2
   cases hv
   have e3 : pm π st.leaves = lfs F u ++ lfs W v := by rw [← vals_eq e1, ← vals_eq e2, List.take_append_drop]
   have e4 := cur_inj (cur_inj h1 u) v
   simp only [Prod.mk.injEq] at e4
   have e5 := (St.like_len hk).trans (St.like_len e4.1).symm
   have e6 := pm_inj e5 (by rw [St.like_len e4.1]; exact hc) (e3.trans e4.2.symm)
   have := St.like_eq hk e4.1 e6
   subst this
   refine ⟨fuel, ?_⟩
   rw [← key u K fuel, ap_cur] at hr
   exact hr
  ·cases hv
 ·cases hr
theorem ent_ok {X : Ctx} {id : Nat} {b : Code} {F W : List Sg} {π : List Nat} {s : Fn F (Fn W St)} {l : Fn F ((St → O) → Nat → Fn W O)} (q : Fn F ((St → O) → Fn W O → Fn W O))
 (h1 : (cur F fun u => cur W fun v => ((ap W (ap F s u) v).like (ent id F W π s l).2.1, pm π (ap W (ap F s u) v).leaves)) = cur F fun u => cur W fun v => (true, lfs F u ++ lfs W v))
 (hc : ((List.range (ent id F W π s l).2.1.leaves.length).all fun j => π.any (Nat.beq j)) = true)
 (h2 : (fun k => cur F fun u => ap F l u k 0) = fun _ => cur F fun _ => cur W fun _ => none)
 (h3 : (fun k n => cur F fun u => ap F l u k (n + 1)) = fun k n => cur F fun u => ap F q u k (ap F l u k n))
 (h4 : (fun k it => cur F fun u => cur W fun v => iterS X id b it (ap W (ap F s u) v) k) = fun k it => cur F fun u => ap F q u k (cur W fun v => it (ap W (ap F s u) v) k)) :
 ∀ st K r, st.like (ent id F W π s l).2.1 = true → (ent id F W π s l).2.2 st.leaves K = some r → ∃ n, iter X id b n st K = some r := ent_fin (ent_key q h2 h3 h4) h1 hc
/-- a loop that goes on in states of another shape -/
theorem ent_ok2 {X : Ctx} {id : Nat} {b : Code} {F W : List Sg} {π : List Nat} {s : Fn F (Fn W St)} {l : Fn F ((St → O) → Nat → Fn W O)} {W' : List Sg} {s' : Fn W' St} {l' : (St → O) → Nat → Fn W' O}
 (q' : (St → O) → Fn W' O → Fn W' O) (q : Fn F ((St → O) → Fn W O → Fn W' O → Fn W O))
 (h2' : (fun k => l' k 0) = fun _ => cur W' fun _ => none) (h3' : (fun k n => l' k (n + 1)) = fun k n => q' k (l' k n))
 (h4' : (fun k it => cur W' fun v => iterS X id b it (ap W' s' v) k) = fun k it => q' k (cur W' fun v => it (ap W' s' v) k))
 (h1 : (cur F fun u => cur W fun v => ((ap W (ap F s u) v).like (ent id F W π s l).2.1, pm π (ap W (ap F s u) v).leaves)) = cur F fun u => cur W fun v => (true, lfs F u ++ lfs W v))
 (hc : ((List.range (ent id F W π s l).2.1.leaves.length).all fun j => π.any (Nat.beq j)) = true)
 (h2 : (fun k => cur F fun u => ap F l u k 0) = fun _ => cur F fun _ => cur W fun _ => none)
 (h3 : (fun k n => cur F fun u => ap F l u k (n + 1)) = fun k n => cur F fun u => ap F q u k (ap F l u k n) (l' k n))
 (h4 : (fun k it => cur F fun u => cur W fun v => iterS X id b it (ap W (ap F s u) v) k) = fun k it => cur F fun u => ap F q u k (cur W fun v => it (ap W (ap F s u) v) k) (cur W' fun v => it (ap W' s' v) k)) :
 ∀ st K r, st.like (ent id F W π s l).2.1 = true → (ent id F W π s l).2.2 st.leaves K = some r → ∃ n, iter X id b n st K = some r := by
 refine ent_fin (fun u K n => ?_) h1 hc
 have k' : ∀ n, (cur W' fun v => iter X id b n (ap W' s' v) K) = l' K n := ent_key (F := []) (s := s') (l := l') q' h2' h3' h4' () K
 induction n with
 | zero => exact (cur_inj (congrFun h2 K) u).symm
 | succ n ih =>
  rw [cur_inj (congrFun (congrFun h3 K) n) u, ← ih, ← k' n]
  exact cur_inj (congrFun (congrFun h4 K) (iter X id b n)) u
end Go.Tv
set_option autoImplicit false
namespace Go.Tv
open Go
def tabName : String := "internal/strconv.uint64pow10"
/-- the world holds the table -/
@[reducible] def envTab (P : Program) (kl : List FuncId) : Env where
 kl := kl
 inv t w := ∃ g, P.globalNamed tabName = some g ∧ t g = .imm ∧ g < w.heap.size ∧ Lib.TabIs P w tabName .u64 Lib.pow10Tab
 keep := by
  intro t t' w w' hs hk h
  obtain ⟨g, h1, h2, h3, h4⟩ := h
  obtain ⟨k1, k2⟩ := hk g h3 h2
  refine ⟨g, h1, k2, by omega, ?_⟩
  unfold Lib.TabIs World.var? at h4 ⊢
  rw [h1] at h4 ⊢
  simpa [k1] using h4
theorem envTab_start {P : Program} {kl : List FuncId} {W : World} (h : Lib.TabIs P W tabName .u64 Lib.pow10Tab) : (envTab P kl).inv (fun _ => .imm) W := by
 have h0 := h
 unfold Lib.TabIs World.var? at h
 cases hg : P.globalNamed tabName with
 | none => rw [hg] at h; cases h
 | some g =>
  rw [hg] at h
  simp only [Option.bind_some] at h
  refine ⟨g, hg, rfl, ?_, h0⟩
  cases hh : W.heap[g]? with
  | none => rw [hh] at h; cases h
  | some o => exact (Array.getElem?_eq_some_iff.1 hh).1
/-! ### functions by a contract -/
theorem Step.outer {U F : Nat → Prop} {kl : Bool} {G : Gh} {w' : World} (h : RowKit.Below G.w.heap.size G.w w') : Step U F kl G { G with w := w' } where
 os := h.os
 tape := h.tape
 output := h.output
 size := h.size
 blk := fun b hb _ => ⟨h.block b hb, rfl⟩
 nst := fun _ b r i j hb ht => ⟨h.block b hb, by show lvl 1 (G.who b); rw [ht]; rfl⟩
 κ := fun _ _ => rfl
 β := fun _ _ => rfl
section
variable [Env] {P : Program} {f : FuncId} {fn : Func}
theorem con_prim {tmpl : St} {run : List Lf → (Res → Option Res) → Option Res} (hf : P.funcs[f]? = some fn) (hb : fn.body.isSome = true) (hn : (fn.name == "runtime.NumGoroutine") = false)
 (h : ∀ as rows boxes K r, (argSt as rows boxes).like tmpl = true → run (argSt as rows boxes).leaves K = some r → ∃ res, K res = some r ∧ res.told ∧ ∀ G vals, ArgsOk G as rows boxes vals →
  Calls P f vals G.w fun | .returned v, w' => ∃ G', w' = G'.w ∧ Step Uc Fc false G G' ∧ ResOk G' res v | _, _ => False) : Con P (f, tmpl, run) := fun as rows boxes K r hr => by
 cases hl : (argSt as rows boxes).like tmpl with
 | false => simp only [hl, cond_false] at hr; cases hr
 | true =>
  simp only [hl, cond_true] at hr
  obtain ⟨res, h1, h2, h3⟩ := h as rows boxes K r hl hr
  refine ⟨res, h1, h2, fun G vals hA => .inl ⟨?_, (h3 G vals hA).mono fun e w' he => by
   cases e with
   | returned v => obtain ⟨G', e1, s1, r1⟩ := he; exact ⟨G', e1, s1.weak (fun _ h => h) (fun _ h => h) (fun _ => rfl), r1⟩
   | _ => exact he⟩⟩
  have hn : fn.name ≠ "runtime.NumGoroutine" := by simpa using hn
  obtain ⟨c, hc⟩ := Option.isSome_iff_exists.1 hb
  simp [callFunc, hf, hn, hc]
/-- a string comes back -/
def strM (s : ByteArray) : Res := ⟨[⟨false, [.str s]⟩], [], [], [], []⟩
theorem strM_told (s : ByteArray) : (strM s).told := by
 refine ⟨fun v hv c hc => ?_, fun b hb => ?_, fun b hb => ?_⟩
 ·simp only [strM, List.mem_singleton] at hv; subst hv; simp only [List.mem_singleton] at hc; subst hc; rfl
 ·cases hb
 ·cases hb
theorem strM_ok (G : Gh) (s : ByteArray) : ResOk G (strM s) (.string s) where
 val := ⟨_, rfl, rfl⟩
 rows := by intro j R h; simp [strM] at h
 nr := by intro j R h; simp [strM] at h
 boxes := by intro j R h; simp [strM] at h
 nb := by intro j R h; simp [strM] at h
theorem str_back {G : Gh} {s : ByteArray} {w' : World} (h : RowKit.Below G.w.heap.size G.w w') : ∃ G' : Gh, w' = G'.w ∧ Step Uc Fc false G G' ∧ ResOk G' (strM s) (.string s) := ⟨{ G with w := w' }, rfl, Step.outer h, strM_ok _ _⟩
theorem args_one {G : Gh} {x : TV} {rows : List Row} {boxes : List (List C)} {vals : Array Value} (h : ArgsOk G [x] rows boxes vals) : ∃ v, vals = #[v] ∧ TVV G x v := by
 obtain ⟨v, h1, h2⟩ := h.val 0 x rfl
 refine ⟨v, ?_, h2⟩
 have hl := h.len
 obtain ⟨l⟩ := vals
 match l, hl, h1 with
 | [a], _, h1 => cases h1; rfl
theorem args_two {G : Gh} {x y : TV} {rows : List Row} {boxes : List (List C)} {vals : Array Value} (h : ArgsOk G [x, y] rows boxes vals) : ∃ v u, vals = #[v, u] ∧ TVV G x v ∧ TVV G y u := by
 obtain ⟨v, h1, h2⟩ := h.val 0 x rfl
 obtain ⟨u, h3, h4⟩ := h.val 1 y rfl
 refine ⟨v, u, ?_, h2, h4⟩
 have hl := h.len
 obtain ⟨l⟩ := vals
 match l, hl, h1, h3 with
 | [a, b], _, h1, h3 => cases h1; cases h3; rfl
end
/-! ### strconv.Itoa -/
def itoaB (n : Int) : ByteArray := ⟨(Lib.itoa n).toArray⟩
def itoaG (n : Int) (R : ByteArray → Option Res) : Option Res := bif decide (-9223372036854775808 ≤ n) && decide (n ≤ 9223372036854775807) then R (itoaB n) else none
def itoaRun : List Lf → (Res → Option Res) → Option Res
 | [.i n], K => itoaG n fun s => K (strM s)
 | _, _ => none
def itoaC (f : FuncId) : FuncId × St × (List Lf → (Res → Option Res) → Option Res) := (f, argSt [one (.int .i64 0)] [] [], itoaRun)
def ItoaIs (P : Program) (f : FuncId) : Prop := ∀ (n : Int), -9223372036854775808 ≤ n → n ≤ 9223372036854775807 → ∀ w, Lib.TabIs P w tabName .u64 Lib.pow10Tab →
 Calls P f #[.int .i64 n] w fun e w' => e = .returned (.string ⟨(Lib.itoa n).toArray⟩) ∧ ∃ k os, w' = Sort.grow (w.drewN k) os
theorem con_itoa {P : Program} {kl : List FuncId} {f : FuncId} {fn : Func} (hf : P.funcs[f]? = some fn) (hb : fn.body.isSome = true) (hn : (fn.name == "runtime.NumGoroutine") = false) (h : ItoaIs P f) : @Con (envTab P kl) P (itoaC f) := by
 letI : Env := envTab P kl
 refine con_prim hf hb hn fun as rows boxes K r hl hr => ?_
 obtain ⟨n, e, hq⟩ : ∃ n, (argSt as rows boxes).leaves = [.i n] ∧ itoaG n (fun s => K (strM s)) = some r := by
  unfold itoaRun at hr; split at hr
  ·exact ⟨_, by assumption, hr⟩
  ·cases hr
 have := St.like_eq (y := argSt [one (.int .i64 n)] [] []) hl rfl e
 obtain ⟨rfl, rfl, rfl⟩ := argSt_inj this
 clear hr; unfold itoaG at hq
 cases hg : (decide (-9223372036854775808 ≤ n) && decide (n ≤ 9223372036854775807)) with
 | false => rw [hg] at hq; cases hq
 | true =>
  rw [hg] at hq
  simp only [Bool.and_eq_true, decide_eq_true_eq] at hg
  refine ⟨strM (itoaB n), hq, strM_told _, fun G vals hA => ?_⟩
  obtain ⟨v, rfl, hv⟩ := args_one hA
  obtain ⟨c, hc, hv⟩ := hv
  cases hc
  have hv : v = .int .i64 n := hv
  subst hv
  obtain ⟨g, _, _, _, htab⟩ := hA.env
  refine (h n hg.1 hg.2 G.w htab).mono fun e w' ⟨he, k, os, hw⟩ => ?_
  subst he
  subst hw
  refine str_back ⟨rfl, rfl, rfl, ?_, ?_⟩
  ·simp [Sort.grow]
  ·intro b hb
   simp only [Sort.grow, World.heap_drewN]
   exact Array.getElem?_append_left hb
/-! ### strings.Join -/
def joinL (xs : List ByteArray) (sep : ByteArray) : List UInt8 := Lib.join (xs.map (·.data.toList)) sep.data.toList
def joinB (xs : List ByteArray) (sep : ByteArray) : ByteArray := ⟨(joinL xs sep).toArray⟩
def joinG (xs : List ByteArray) (sep : ByteArray) (R : ByteArray → Option Res) : Option Res := bif decide (xs.length ≤ 140737488355328) && decide ((joinL xs sep).length ≤ 140737488355328) then R (joinB xs sep) else none
def joinRun : List Lf → (Res → Option Res) → Option Res
 | [.q (.strs xs), .s sep], K => joinG xs sep fun s => K (strM s)
 | _, _ => none
def joinC (f : FuncId) (x y : Nat) : FuncId × St × (List Lf → (Res → Option Res) → Option Res) := (f, argSt [one (.tr x y [.str] (.strs [])), one (.str ByteArray.empty)] [] [], joinRun)
structure JoinIs (P : Program) (f : FuncId) : Prop where
 none : ∀ (a : Option Addr) (c : Nat) (sep : ByteArray) (w : World), Calls P f #[.slice a 0 c, .string sep] w fun e w' => e = .returned (.string ⟨#[]⟩) ∧ w' = w
 some : ∀ (bk o c : Nat) (xs : List ByteArray) (sep : ByteArray) (w : World), (∀ (j : Nat) x, xs[j]? = some x → w.cell? ⟨bk, o + j, .none⟩ = .some (.string x)) → bk < w.heap.size → xs.length ≤ 140737488355328 → xs.length ≤ c →
  (Lib.join (xs.map (·.data.toList)) sep.data.toList).length ≤ 140737488355328 → Calls P f #[.slice (.some ⟨bk, o, .none⟩) xs.length c, .string sep] w fun e w' => e = .returned (.string ⟨(Lib.join (xs.map (·.data.toList)) sep.data.toList).toArray⟩) ∧ RowKit.Below w.heap.size w w'
theorem con_join [Env] {P : Program} {f : FuncId} {fn : Func} (x y : Nat) (hf : P.funcs[f]? = some fn) (hb : fn.body.isSome = true) (hn : (fn.name == "runtime.NumGoroutine") = false) (h : JoinIs P f) : Con P (joinC f x y) := by
 refine con_prim hf hb hn fun as rows boxes K r hl hr => ?_
 obtain ⟨xs, sep, e, hq⟩ : ∃ xs sep, (argSt as rows boxes).leaves = [.q (.strs xs), .s sep] ∧ joinG xs sep (fun s => K (strM s)) = some r := by
  unfold joinRun at hr; split at hr
  ·exact ⟨_, _, by assumption, hr⟩
  ·cases hr
 have := St.like_eq (y := argSt [one (.tr x y [.str] (.strs xs)), one (.str sep)] [] []) hl (by simp [argSt, St.like, C.like, C.like.likeL, TV.like, V1.like, one, Row.like, ctsBeq, ctBeq]) e
 obtain ⟨rfl, rfl, rfl⟩ := argSt_inj this
 clear hr; unfold joinG at hq
 cases hg : (decide (xs.length ≤ 140737488355328) && decide ((joinL xs sep).length ≤ 140737488355328)) with
 | false => rw [hg] at hq; cases hq
 | true =>
  rw [hg] at hq
  simp only [Bool.and_eq_true, decide_eq_true_eq] at hg
  refine ⟨strM (joinB xs sep), hq, strM_told _, fun G vals hA => ?_⟩
  obtain ⟨v, u, rfl, hv, hu⟩ := args_two hA
  obtain ⟨c, hc, hv⟩ := hv
  cases hc
  obtain ⟨c, hc, hu⟩ := hu
  cases hc
  have hu : u = .string sep := hu
  subst hu
  obtain ⟨A, cap, rfl, hf2, hv⟩ := hv
  rcases hv with hv | ⟨g, o, rfl, _, hE⟩
  ·have hx : xs = [] := List.length_eq_zero_iff.1 hv
   subst hx
   refine (h.none A cap sep G.w).mono fun e w' ⟨he, hw⟩ => ?_
   subst he
   subst hw
   exact str_back (RowKit.Below.refl _ _)
  ·cases xs with
   | nil =>
    refine (h.none _ cap sep G.w).mono fun e w' ⟨he, hw⟩ => ?_
    subst he
    subst hw
    exact str_back (RowKit.Below.refl _ _)
   | cons x0 xs =>
    have hc : ∀ (j : Nat) x, (x0 :: xs)[j]? = some x → G.w.cell? ⟨g, o + j, none⟩ = some (.string x) := by
     intro j x hj
     have hj' : j < (x0 :: xs).length := (List.getElem?_eq_some_iff.1 hj).1
     obtain ⟨v, c, e1, e2, e3⟩ := hE j 0 .str hj' rfl
     simp only [Sq.get, List.getD, hj, Option.getD_some, List.getElem?_cons_zero, Option.some.injEq] at e2
     simp only [List.length_singleton, Nat.mul_one, Nat.add_zero] at e1
     subst e2
     have e3 : v = .string x := e3
     rw [e1, e3]
    refine (h.some g o cap (x0 :: xs) sep G.w hc (lt_of_cell (hc 0 x0 rfl)) hg.1 hf2.2 hg.2).mono fun e w' ⟨he, hw⟩ => ?_
    subst he
    exact str_back hw
/-! ### strings.Repeat -/
def repB (s : ByteArray) (n : Int) : ByteArray := ⟨(Lib.repeatL s.data.toList n.toNat).toArray⟩
def repG (s : ByteArray) (n : Int) (R : ByteArray → Option Res) : Option Res := bif decide (0 ≤ n) && decide (n ≤ 9223372036854775807) && decide (0 < s.size) && decide (s.size * n.toNat ≤ 140737488355328) then R (repB s n) else none
def repRun : List Lf → (Res → Option Res) → Option Res
 | [.s s, .i n], K => repG s n fun s => K (strM s)
 | _, _ => none
def repC (f : FuncId) : FuncId × St × (List Lf → (Res → Option Res) → Option Res) := (f, argSt [one (.str ByteArray.empty), one (.int .i64 0)] [] [], repRun)
structure RepIs (P : Program) (f : FuncId) : Prop where
 zero : ∀ (s : ByteArray) (w : World), Calls P f #[.string s, .int .i64 0] w fun e w' => e = .returned (.string ⟨#[]⟩) ∧ w' = w
 one : ∀ (s : ByteArray) (w : World), Calls P f #[.string s, .int .i64 1] w fun e w' => e = .returned (.string s) ∧ w' = w
 main : ∀ (s : ByteArray) (c : Nat) (w : World), 2 ≤ c → c ≤ 9223372036854775807 → s.size * c ≤ 140737488355328 → 0 < s.size → Calls P f #[.string s, .int .i64 c] w fun e w' => e = .returned (.string ⟨(Lib.repeatL s.data.toList c).toArray⟩) ∧ RowKit.Below w.heap.size w w'
theorem con_rep [Env] {P : Program} {f : FuncId} {fn : Func} (hf : P.funcs[f]? = some fn) (hb : fn.body.isSome = true) (hn : (fn.name == "runtime.NumGoroutine") = false) (h : RepIs P f) : Con P (repC f) := by
 refine con_prim hf hb hn fun as rows boxes K r hl hr => ?_
 obtain ⟨s, n, e, hq⟩ : ∃ s n, (argSt as rows boxes).leaves = [.s s, .i n] ∧ repG s n (fun s => K (strM s)) = some r := by
  unfold repRun at hr; split at hr
  ·exact ⟨_, _, by assumption, hr⟩
  ·cases hr
 have := St.like_eq (y := argSt [Go.Tv.one (.str s), Go.Tv.one (.int .i64 n)] [] []) hl rfl e
 obtain ⟨rfl, rfl, rfl⟩ := argSt_inj this
 clear hr; unfold repG at hq
 cases hg : (decide (0 ≤ n) && decide (n ≤ 9223372036854775807) && decide (0 < s.size) && decide (s.size * n.toNat ≤ 140737488355328)) with
 | false => rw [hg] at hq; cases hq
 | true =>
  rw [hg] at hq
  simp only [Bool.and_eq_true, decide_eq_true_eq] at hg
  obtain ⟨⟨⟨g1, g2⟩, g3⟩, g4⟩ := hg
  refine ⟨strM (repB s n), hq, strM_told _, fun G vals hA => ?_⟩
  obtain ⟨v, u, rfl, hv, hu⟩ := args_two hA
  obtain ⟨c, hc, hv⟩ := hv
  cases hc
  obtain ⟨c, hc, hu⟩ := hu
  cases hc
  have hu : u = .int .i64 n := hu
  subst hu
  have hv : v = .string s := hv
  subst hv
  obtain ⟨m, rfl⟩ : ∃ m : Nat, n = m := ⟨n.toNat, by omega⟩
  rcases (by omega : m = 0 ∨ m = 1 ∨ 2 ≤ m) with rfl | rfl | hm
  ·refine (h.zero s G.w).mono fun e w' ⟨he, hw⟩ => ?_
   subst he
   subst hw
   exact str_back (RowKit.Below.refl _ _)
  ·refine (h.one s G.w).mono fun e w' ⟨he, hw⟩ => ?_
   subst he
   subst hw
   have : repB s (1 : Nat) = s := by
    show (⟨(s.data.toList ++ []).toArray⟩ : ByteArray) = s
    rw [List.append_nil]
   rw [this]
   exact str_back (RowKit.Below.refl _ _)
  ·refine (h.main s m G.w hm (by omega) (by simpa using g4) g3).mono fun e w' ⟨he, hw⟩ => ?_
   subst he
   exact str_back hw
end Go.Tv
