/- Texts of this claim, merged: Yield OrdB OrdC OrdD OrdE OrdF OrdG OrdH OrdO OrdN Ref08 Ref08b Ref08c OrdP OrdT Ref08d Ref08e. -/
import Derived.Test.YtlhfpnkfapghoaaDoorPk0
import Derived.Test.YtlhfpnkfapghoaaDoorPk3
import Derived.Test.YtlhfpnkfapghoaaDoorPk4
import Derived.Test.YtlhfpnkfapghoaaDoorPk5
import Derived.Laws.Tables
import Derived.Deep.RegionLawGrows
section
/- Regions that draw their order and whose operations make memory, in any order: each operation yields a value of which something holds that no later operation of the region undoes. No condition. -/
set_option linter.unusedVariables false
set_option linter.unusedSimpArgs false
namespace Go.Proofs.YtlhfpnkfapghoaaDoor
open Go.RowKit

section
variable {P : Program} {Q : Exit → Act → World → Prop}
theorem wp_over {o : Oper} {a : Act} {w : World} {K : Act → World → Prop} (h : o.wp P a w K (Exit.then K Q)) : o.wp P a w K Q := by
  unfold Oper.wp at *
  generalize (execOp a.eval o).run P w = r at *
  cases r with
  | ok n w' =>
    cases n <;> simp only [Oper.upon] at h ⊢ <;>
      first
        | exact h
        | exact Calls.mono h (fun e w'' he => by cases e <;> exact he)
  | halt x w' => cases x <;> simp only [Oper.upon] at h ⊢ <;> exact h
/-- One operation, as a list of its own. -/
theorem wpOp_of_list {ops : Array Oper} {i : Nat} {o : Oper} {a : Act} {w : World} {K : Act → World → Prop} (hi : ops[i]? = some o) (h : wpList P ops (Exit.then K Q) [o] a w) : wpOp P ops Q i K a w := by
  unfold wpOp
  rw [hi]
  unfold wpList at h
  have e : wpList P ops (Exit.then K Q) [] = K := by funext a w; rfl
  rw [e] at h
  dsimp only
  split at h
  · rename_i hw
    rw [if_pos hw]
    rcases h with h | ⟨h1, h2⟩
    · exact .inl (wp_over h)
    · exact .inr ⟨h1, h2⟩
  · rename_i hw
    rw [if_neg hw]
    exact h
/-- All that the operations yield, put in their slots. -/
def putAll (vals : Nat → Value) : Nat → List Oper → Act → Act
  | _, [], a => a
  | k, o :: l, a => putAll vals (k + 1) l (a.put o.dst (vals k))
/-- No slot twice. -/
def dstOnce : List Oper → Bool
  | [] => true
  | o :: l => (match o.dst with | some s => l.all fun p => p.dst != some s | none => true) && dstOnce l
def dstIn (n : Nat) (l : List Oper) : Bool := l.all fun o => match o.dst with | some s => decide (s < n) | none => true
/-- What an operation waits for stands ahead of it. -/
def backB : Nat → List Oper → Bool
  | _, [] => true
  | k, o :: l => o.after.all (fun e => decide (e.on < k)) && backB (k + 1) l
theorem dst_one : ∀ {l : List Oper}, dstOnce l = true → ∀ {i j : Nat} {p q : Oper} {s : Nat}, l[i]? = some p → l[j]? = some q → p.dst = some s → q.dst = some s → i = j
  | [], _, i, j, p, q, s, hi, _, _, _ => by simp at hi
  | o :: l, h, i, j, p, q, s, hi, hj, hp, hq => by
    simp only [dstOnce, Bool.and_eq_true] at h
    have key : ∀ {m : Nat} {r : Oper}, o.dst = some s → l[m]? = some r → r.dst = some s → False := fun {m r} ho hm hr => by
      have h1 := h.1
      rw [ho] at h1
      simp only [List.all_eq_true] at h1
      have := h1 r (List.mem_of_getElem? hm)
      rw [hr] at this
      simp at this
    cases i with
    | zero =>
      cases j with
      | zero => rfl
      | succ j =>
        simp at hi hj
        subst hi
        exact (key hp hj hq).elim
    | succ i =>
      cases j with
      | zero =>
        simp at hi hj
        subst hj
        exact (key hq hi hp).elim
      | succ j =>
        simp at hi hj
        rw [dst_one h.2 hi hj hp hq]
theorem back_of : ∀ {l : List Oper} {k : Nat}, backB k l = true → ∀ {i : Nat} {o : Oper}, l[i]? = some o → ∀ e ∈ o.after, e.on < k + i
  | [], _, _, i, o, hi, _, _ => by simp at hi
  | p :: l, k, h, i, o, hi, e, he => by
    simp only [backB, Bool.and_eq_true, Array.all_eq_true_iff_forall_mem, decide_eq_true_eq] at h
    cases i with
    | zero =>
      simp at hi
      subst hi
      exact h.1 e he
    | succ i =>
      simp at hi
      have := back_of h.2 hi e he
      omega
theorem putAll_defers (vals : Nat → Value) : ∀ (l : List Oper) (k : Nat) (a : Act), (putAll vals k l a).defers = a.defers
  | [], _, _ => rfl
  | o :: l, k, a => by
    unfold putAll
    rw [putAll_defers vals l]
    unfold Act.put
    split <;> rfl
theorem put_size (a : Act) (d : Option Tmp) (v : Value) : (a.put d v).tmps.size = a.tmps.size := by
  unfold Act.put
  split <;> simp
theorem putAll_size (vals : Nat → Value) : ∀ (l : List Oper) (k : Nat) (a : Act), (putAll vals k l a).tmps.size = a.tmps.size
  | [], _, _ => rfl
  | o :: l, k, a => by
    unfold putAll
    rw [putAll_size vals l, put_size]
theorem put_other {a : Act} {d : Option Tmp} {v : Value} {s : Nat} (h : d ≠ some s) : (a.put d v).tmps[s]? = a.tmps[s]? := by
  unfold Act.put
  split
  · rename_i t
    have : t ≠ s := fun e => h (by rw [e])
    simp [Array.getElem?_setIfInBounds_ne this]
  · rfl
theorem put_same {a : Act} {v : Value} {s : Nat} (h : s < a.tmps.size) : (a.put (some s) v).tmps[s]? = some v := by
  unfold Act.put
  simp [h]
theorem putAll_other (vals : Nat → Value) : ∀ (l : List Oper) (k : Nat) (a : Act) (s : Nat), (∀ o ∈ l, o.dst ≠ some s) → (putAll vals k l a).tmps[s]? = a.tmps[s]?
  | [], _, _, _, _ => rfl
  | o :: l, k, a, s, h => by
    unfold putAll
    rw [putAll_other vals l (k + 1) _ s (fun p hp => h p (List.mem_cons_of_mem _ hp)), put_other (h o (List.mem_cons_self ..))]
theorem putAll_at (vals : Nat → Value) : ∀ (l : List Oper) (k : Nat) (a : Act) (s i : Nat) (o : Oper), dstOnce l = true → l[i]? = some o → o.dst = some s → s < a.tmps.size → (putAll vals k l a).tmps[s]? = some (vals (k + i))
  | [], _, _, _, i, _, _, hi, _, _ => by simp at hi
  | p :: l, k, a, s, i, o, hd, hi, ho, hs => by
    unfold putAll
    have hd2 := hd
    simp only [dstOnce, Bool.and_eq_true] at hd
    cases i with
    | zero =>
      simp at hi
      subst hi
      rw [putAll_other vals l (k + 1) _ s, ho, put_same hs]
      · rfl
      · intro q hq e
        have h1 := hd.1
        rw [ho] at h1
        simp only [List.all_eq_true] at h1
        have := h1 q hq
        rw [e] at this
        simp at this
    | succ i =>
      simp at hi
      rw [putAll_at vals l (k + 1) _ s i o hd.2 hi ho (by rw [put_size]; exact hs)]
      rw [show k + 1 + i = k + (i + 1) by omega]

/-- How far the region has come. -/
structure YInv (l : List Oper) (R : Nat → Value → World → Prop) (w0 : World) (a0 : Act) (listed : Array Bool) (a : Act) (w : World) : Prop where
  lsz : listed.size = l.length
  ch : Ch nob w0 w
  defs : a.defers = a0.defers
  size : a.tmps.size = a0.tmps.size
  old : ∀ s, (∀ i o, l[i]? = some o → listed.getD i false = true → o.dst ≠ some s) → a.tmps[s]? = a0.tmps[s]?
  val : ∀ i o s, l[i]? = some o → listed.getD i false = true → o.dst = some s → ∃ v, a.tmps[s]? = some v ∧ R i v w
/-- What an operation may lean on. -/
structure YKnow (l : List Oper) (R : Nat → Value → World → Prop) (w0 : World) (a0 : Act) (o : Oper) (a : Act) (w : World) : Prop where
  ch : Ch nob w0 w
  old : ∀ s, (∀ p ∈ l, p.dst ≠ some s) → a.tmps[s]? = a0.tmps[s]?
  val : ∀ e ∈ o.after, Region.binds .any e = true → ∀ p s, l[e.on]? = some p → p.dst = some s → ∃ v, a.tmps[s]? = some v ∧ R e.on v w
theorem wp_region_yield {id : Nat} {a0 : Act} {w0 : World} {l : List Oper} (R : Nat → Value → World → Prop) (hm : P.follows .mixedOrders = true) (hd : dstOnce l = true) (hz : dstIn a0.tmps.size l = true) (hb : backB 0 l = true)
    (stable : ∀ i v w w', R i v w → Ch nob w w' → R i v w')
    (step : ∀ i o, l[i]? = some o → ∀ a w, YKnow l R w0 a0 o a w → ∀ K : Act → World → Prop, (∀ v w', R i v w' → Ch nob w w' → K (a.put o.dst v) w') → wpList P l.toArray (Exit.then K Q) [o] a w)
    (done : ∀ vals w', (∀ i o s, l[i]? = some o → o.dst = some s → R i (vals i) w') → Ch nob w0 w' → Q .normal (putAll vals 0 l a0) w') : (Code.region id l.toArray true).wp P Q a0 w0 := by
  refine wp_region_any hm ?_
  have hfin : ∀ listed a w, YInv l R w0 a0 listed a w → (∀ i, i < l.length → listed.getD i false = true) → Q .normal a w := fun listed a w inv hall => by
    have hval : ∀ i : Nat, ∃ v : Value, ∀ (o : Oper) (s : Tmp), l[i]? = some o → o.dst = some s → a.tmps[s]? = some v ∧ R i v w := fun i => by
      cases hi : l[i]? with
      | none => exact ⟨undef, fun o s h => by cases h⟩
      | some o =>
        cases ho : o.dst with
        | none => exact ⟨undef, fun p s h h2 => by cases h; rw [ho] at h2; cases h2⟩
        | some s =>
          obtain ⟨v, h1, h2⟩ := inv.val i o s hi (hall i (List.getElem?_eq_some_iff.1 hi).1) ho
          exact ⟨v, fun p s' h h3 => by cases h; rw [ho] at h3; cases h3; exact ⟨h1, h2⟩⟩
    obtain ⟨vals, hvals⟩ : ∃ vals : Nat → Value, ∀ (i : Nat) (o : Oper) (s : Tmp), l[i]? = some o → o.dst = some s → a.tmps[s]? = some (vals i) ∧ R i (vals i) w := ⟨fun i => Classical.choose (hval i), fun i => Classical.choose_spec (hval i)⟩
    have e : a = putAll vals 0 l a0 := by
      have ht : a.tmps = (putAll vals 0 l a0).tmps := by
        apply Array.ext_getElem?
        intro s
        by_cases hs : ∃ (i : Nat) (o : Oper), l[i]? = some o ∧ o.dst = some s
        · obtain ⟨i, o, h1, h2⟩ := hs
          have h3 : s < a0.tmps.size := by
            unfold dstIn at hz
            rw [List.all_eq_true] at hz
            have := hz o (List.mem_of_getElem? h1)
            rw [h2] at this
            simpa using this
          rw [(hvals i o s h1 h2).1, putAll_at vals l 0 a0 s i o hd h1 h2 h3, Nat.zero_add]
        · have hno : ∀ o : Oper, o ∈ l → o.dst ≠ some s := fun o ho e => hs (by
            obtain ⟨i, hi⟩ := List.getElem?_of_mem ho
            exact ⟨i, o, hi, e⟩)
          rw [putAll_other vals l 0 a0 s hno]
          exact inv.old s (fun i o hi _ => hno o (List.mem_of_getElem? hi))
      have hdf : a.defers = (putAll vals 0 l a0).defers := by rw [putAll_defers]; exact inv.defs
      obtain ⟨t1, d1⟩ := a
      cases hp : putAll vals 0 l a0 with
      | mk t2 d2 =>
        rw [hp] at ht hdf
        simp only at ht hdf
        rw [ht, hdf]
    rw [e]
    exact done vals w (fun i o s h1 h2 => (hvals i o s h1 h2).2) inv.ch
  have hready : ∀ listed a w, YInv l R w0 a0 listed a w → Region.ready .any l.toArray listed = [] → ∀ i, i < l.length → listed.getD i false = true := fun listed a w inv hr => by
    intro i
    induction i using Nat.strongRecOn with
    | ind i ih =>
      intro hi
      cases hl : listed.getD i false with
      | true => rfl
      | false =>
        exfalso
        have hi2 : l[i]? = some l[i] := List.getElem?_eq_getElem hi
        have : i ∈ Region.ready .any l.toArray listed := mem_ready.2 ⟨by
          rw [Array.getD_eq_getD_getElem?, Array.getElem?_eq_getElem (by rw [inv.lsz]; exact hi)] at hl ⊢
          exact hl, l[i], by simp, fun e he _ => ih e.on (by have := back_of hb hi2 e he; omega) (by have := back_of hb hi2 e he; omega)⟩
        rw [hr] at this
        cases this
  have main : ∀ fuel listed a w, YInv l R w0 a0 listed a w → listed.count false ≤ fuel → wpAny P .any l.toArray Q fuel listed a w := by
    intro fuel
    induction fuel with
    | zero =>
      intro listed a w inv hc
      have hall : ∀ i, i < l.length → listed.getD i false = true := fun i hi => by
        cases hl : listed.getD i false with
        | true => rfl
        | false =>
          exfalso
          have h1 : false ∈ listed := by
            rw [Array.getD_eq_getD_getElem?, Array.getElem?_eq_getElem (by rw [inv.lsz]; exact hi), Option.getD_some] at hl
            rw [← hl]; exact Array.getElem_mem _
          have := Array.count_pos_iff.2 h1
          omega
      refine ⟨?_, hfin listed a w inv hall⟩
      apply List.eq_nil_iff_forall_not_mem.2
      intro j hj
      obtain ⟨h1, o, h2, _⟩ := mem_ready.1 hj
      have hj2 : j < l.length := by
        have := (Array.getElem?_eq_some_iff.1 h2).1
        simpa using this
      have := hall j hj2
      rw [Array.getD_eq_getD_getElem?, Array.getElem?_eq_getElem (by rw [inv.lsz]; exact hj2)] at h1 this
      simp at h1 this
      rw [h1] at this
      cases this
    | succ fuel ih =>
      intro listed a w inv hc
      refine ⟨fun hr => hfin listed a w inv (hready listed a w inv hr), fun i hi => ?_⟩
      obtain ⟨h1, o, h2, h3⟩ := mem_ready.1 hi
      have h2' : l[i]? = some o := by simpa using h2
      have hil : i < l.length := (List.getElem?_eq_some_iff.1 h2').1
      have hlt : i < listed.size := by rw [inv.lsz]; exact hil
      have hcur : listed[i] = false := by
        rw [Array.getD_eq_getD_getElem?, Array.getElem?_eq_getElem hlt] at h1
        exact h1
      refine wpOp_of_list h2 (step i o h2' a w ⟨inv.ch, fun s hs => inv.old s (fun j p hj _ => hs p (List.mem_of_getElem? hj)), fun e he hbd p s hp hs => inv.val e.on p s hp (h3 e he hbd) hs⟩ _ (fun v w' hv hcw => ?_))
      have gset : ∀ j, (listed.setIfInBounds i true).getD j false = true → j = i ∨ listed.getD j false = true := fun j hj => by
        by_cases e : i = j
        · exact .inl e.symm
        · rw [getD_set_ne false e] at hj; exact .inr hj
      have hsz : ∀ s, o.dst = some s → s < a.tmps.size := fun s hs => by
        rw [inv.size]
        unfold dstIn at hz
        rw [List.all_eq_true] at hz
        have := hz o (List.mem_of_getElem? h2')
        rw [hs] at this
        simpa using this
      refine ih _ _ _ ⟨by simpa using inv.lsz, inv.ch.seq hcw, ?_, by rw [put_size]; exact inv.size, fun s hs => ?_, fun j p s hj hlj hp => ?_⟩ ?_
      · have : (a.put o.dst v).defers = a.defers := by unfold Act.put; split <;> rfl
        rw [this]; exact inv.defs
      · rw [put_other (hs i o h2' (by simp [hlt]))]
        refine inv.old s (fun j p hj hlj => hs j p hj (getD_set_true hlj))
      · by_cases e : j = i
        · subst e
          rw [h2'] at hj
          cases hj
          rw [hp]
          exact ⟨v, put_same (hsz s hp), hv⟩
        · have hne : o.dst ≠ some s := fun e2 => e (dst_one hd hj h2' hp e2)
          rw [put_other hne]
          obtain ⟨u, hu1, hu2⟩ := inv.val j p s hj ((gset j hlj).resolve_left e) hp
          exact ⟨u, hu1, stable _ _ _ _ hu2 hcw⟩
      · have hcs := Array.count_set (a := true) (b := false) (xs := listed) (i := i) hlt
        rw [show listed.setIfInBounds i true = listed.set i true hlt from by simp [Array.setIfInBounds, hlt]]
        rw [hcs, hcur]
        simp
        omega
  have inv0 : YInv l R w0 a0 (Array.replicate l.toArray.size false) a0 { w0 with drawn := w0.drawn + 1 } := by
    have hno : ∀ i, (Array.replicate l.toArray.size false).getD i false = false := fun i => by
      rw [Array.getD_eq_getD_getElem?]
      by_cases h : i < l.toArray.size
      · simp only [Array.getElem?_replicate]; split <;> rfl
      · simp only [Array.getElem?_replicate]; split <;> rfl
    exact ⟨by simp, (Ch.refl nob w0).drew, rfl, rfl, fun s _ => rfl, fun i o s _ h => by rw [hno] at h; cases h⟩
  refine main l.toArray.size _ _ _ inv0 ?_
  simp [Array.count_replicate]
/-! ### For operations that change old things -/
/-- How far the region has come. -/
structure ZInv (l : List Oper) (R : Nat → Value → World → Prop) (Pre : Nat → World → Prop) (a0 : Act) (listed : Array Bool) (a : Act) (w : World) : Prop where
  lsz : listed.size = l.length
  pre : ∀ i, listed.getD i false = false → Pre i w
  defs : a.defers = a0.defers
  size : a.tmps.size = a0.tmps.size
  old : ∀ s, (∀ i o, l[i]? = some o → listed.getD i false = true → o.dst ≠ some s) → a.tmps[s]? = a0.tmps[s]?
  val : ∀ i o s, l[i]? = some o → listed.getD i false = true → o.dst = some s → ∃ v, a.tmps[s]? = some v ∧ R i v w
/-- What an operation may lean on. -/
structure ZKnow (l : List Oper) (R : Nat → Value → World → Prop) (a0 : Act) (o : Oper) (a : Act) (w : World) : Prop where
  old : ∀ s, (∀ p ∈ l, p.dst ≠ some s) → a.tmps[s]? = a0.tmps[s]?
  val : ∀ e ∈ o.after, Region.binds .any e = true → ∀ p s, l[e.on]? = some p → p.dst = some s → ∃ v, a.tmps[s]? = some v ∧ R e.on v w
/-- As wp_region_yield, for operations that change old things too: of each, what it needs of the world (Pre), and what it may change (E): no other one's value, nor need, may lean on that. -/
theorem wp_region_yield2 {id : Nat} {a0 : Act} {w0 : World} {l : List Oper} (R : Nat → Value → World → Prop) (Pre : Nat → World → Prop) (E : Nat → World → World → Prop) (hm : P.follows .mixedOrders = true) (hd : dstOnce l = true) (hz : dstIn a0.tmps.size l = true) (hb : backB 0 l = true)
    (stable : ∀ i j v w w', i ≠ j → R i v w → E j w w' → R i v w') (keeps : ∀ i j w w', i ≠ j → Pre i w → E j w w' → Pre i w') (start : ∀ i, Pre i w0.drew)
    (step : ∀ i o, l[i]? = some o → ∀ a w, Pre i w → ZKnow l R a0 o a w → ∀ K : Act → World → Prop, (∀ v w', R i v w' → E i w w' → K (a.put o.dst v) w') → wpList P l.toArray (Exit.then K Q) [o] a w)
    (done : ∀ vals w', (∀ i o s, l[i]? = some o → o.dst = some s → R i (vals i) w') → Q .normal (putAll vals 0 l a0) w') : (Code.region id l.toArray true).wp P Q a0 w0 := by
  refine wp_region_any hm ?_
  have hfin : ∀ listed a w, ZInv l R Pre a0 listed a w → (∀ i, i < l.length → listed.getD i false = true) → Q .normal a w := fun listed a w inv hall => by
    have hval : ∀ i : Nat, ∃ v : Value, ∀ (o : Oper) (s : Tmp), l[i]? = some o → o.dst = some s → a.tmps[s]? = some v ∧ R i v w := fun i => by
      cases hi : l[i]? with
      | none => exact ⟨undef, fun o s h => by cases h⟩
      | some o =>
        cases ho : o.dst with
        | none => exact ⟨undef, fun p s h h2 => by cases h; rw [ho] at h2; cases h2⟩
        | some s =>
          obtain ⟨v, h1, h2⟩ := inv.val i o s hi (hall i (List.getElem?_eq_some_iff.1 hi).1) ho
          exact ⟨v, fun p s' h h3 => by cases h; rw [ho] at h3; cases h3; exact ⟨h1, h2⟩⟩
    obtain ⟨vals, hvals⟩ : ∃ vals : Nat → Value, ∀ (i : Nat) (o : Oper) (s : Tmp), l[i]? = some o → o.dst = some s → a.tmps[s]? = some (vals i) ∧ R i (vals i) w := ⟨fun i => Classical.choose (hval i), fun i => Classical.choose_spec (hval i)⟩
    have e : a = putAll vals 0 l a0 := by
      have ht : a.tmps = (putAll vals 0 l a0).tmps := by
        apply Array.ext_getElem?
        intro s
        by_cases hs : ∃ (i : Nat) (o : Oper), l[i]? = some o ∧ o.dst = some s
        · obtain ⟨i, o, h1, h2⟩ := hs
          have h3 : s < a0.tmps.size := by
            unfold dstIn at hz
            rw [List.all_eq_true] at hz
            have := hz o (List.mem_of_getElem? h1)
            rw [h2] at this
            simpa using this
          rw [(hvals i o s h1 h2).1, putAll_at vals l 0 a0 s i o hd h1 h2 h3, Nat.zero_add]
        · have hno : ∀ o : Oper, o ∈ l → o.dst ≠ some s := fun o ho e => hs (by
            obtain ⟨i, hi⟩ := List.getElem?_of_mem ho
            exact ⟨i, o, hi, e⟩)
          rw [putAll_other vals l 0 a0 s hno]
          exact inv.old s (fun i o hi _ => hno o (List.mem_of_getElem? hi))
      have hdf : a.defers = (putAll vals 0 l a0).defers := by rw [putAll_defers]; exact inv.defs
      obtain ⟨t1, d1⟩ := a
      cases hp : putAll vals 0 l a0 with
      | mk t2 d2 =>
        rw [hp] at ht hdf
        simp only at ht hdf
        rw [ht, hdf]
    rw [e]
    exact done vals w (fun i o s h1 h2 => (hvals i o s h1 h2).2)
  have hready : ∀ listed a w, ZInv l R Pre a0 listed a w → Region.ready .any l.toArray listed = [] → ∀ i, i < l.length → listed.getD i false = true := fun listed a w inv hr => by
    intro i
    induction i using Nat.strongRecOn with
    | ind i ih =>
      intro hi
      cases hl : listed.getD i false with
      | true => rfl
      | false =>
        exfalso
        have hi2 : l[i]? = some l[i] := List.getElem?_eq_getElem hi
        have : i ∈ Region.ready .any l.toArray listed := mem_ready.2 ⟨by
          rw [Array.getD_eq_getD_getElem?, Array.getElem?_eq_getElem (by rw [inv.lsz]; exact hi)] at hl ⊢
          exact hl, l[i], by simp, fun e he _ => ih e.on (by have := back_of hb hi2 e he; omega) (by have := back_of hb hi2 e he; omega)⟩
        rw [hr] at this
        cases this
  have main : ∀ fuel listed a w, ZInv l R Pre a0 listed a w → listed.count false ≤ fuel → wpAny P .any l.toArray Q fuel listed a w := by
    intro fuel
    induction fuel with
    | zero =>
      intro listed a w inv hc
      have hall : ∀ i, i < l.length → listed.getD i false = true := fun i hi => by
        cases hl : listed.getD i false with
        | true => rfl
        | false =>
          exfalso
          have h1 : false ∈ listed := by
            rw [Array.getD_eq_getD_getElem?, Array.getElem?_eq_getElem (by rw [inv.lsz]; exact hi), Option.getD_some] at hl
            rw [← hl]; exact Array.getElem_mem _
          have := Array.count_pos_iff.2 h1
          omega
      refine ⟨?_, hfin listed a w inv hall⟩
      apply List.eq_nil_iff_forall_not_mem.2
      intro j hj
      obtain ⟨h1, o, h2, _⟩ := mem_ready.1 hj
      have hj2 : j < l.length := by
        have := (Array.getElem?_eq_some_iff.1 h2).1
        simpa using this
      have := hall j hj2
      rw [Array.getD_eq_getD_getElem?, Array.getElem?_eq_getElem (by rw [inv.lsz]; exact hj2)] at h1 this
      simp at h1 this
      rw [h1] at this
      cases this
    | succ fuel ih =>
      intro listed a w inv hc
      refine ⟨fun hr => hfin listed a w inv (hready listed a w inv hr), fun i hi => ?_⟩
      obtain ⟨h1, o, h2, h3⟩ := mem_ready.1 hi
      have h2' : l[i]? = some o := by simpa using h2
      have hil : i < l.length := (List.getElem?_eq_some_iff.1 h2').1
      have hlt : i < listed.size := by rw [inv.lsz]; exact hil
      have hcur : listed[i] = false := by
        rw [Array.getD_eq_getD_getElem?, Array.getElem?_eq_getElem hlt] at h1
        exact h1
      refine wpOp_of_list h2 (step i o h2' a w (inv.pre i (by rw [Array.getD_eq_getD_getElem?, Array.getElem?_eq_getElem hlt]; exact hcur)) ⟨fun s hs => inv.old s (fun j p hj _ => hs p (List.mem_of_getElem? hj)), fun e he hbd p s hp hs => inv.val e.on p s hp (h3 e he hbd) hs⟩ _ (fun v w' hv hcw => ?_))
      have gset : ∀ j, (listed.setIfInBounds i true).getD j false = true → j = i ∨ listed.getD j false = true := fun j hj => by
        by_cases e : i = j
        · exact .inl e.symm
        · rw [getD_set_ne false e] at hj; exact .inr hj
      have hsz : ∀ s, o.dst = some s → s < a.tmps.size := fun s hs => by
        rw [inv.size]
        unfold dstIn at hz
        rw [List.all_eq_true] at hz
        have := hz o (List.mem_of_getElem? h2')
        rw [hs] at this
        simpa using this
      refine ih _ _ _ ⟨by simpa using inv.lsz, fun j hj => ?_, ?_, by rw [put_size]; exact inv.size, fun s hs => ?_, fun j p s hj hlj hp => ?_⟩ ?_
      · have hne : j ≠ i := fun e => by
          rw [e] at hj
          simp [hlt] at hj
        rw [getD_set_ne false (Ne.symm hne)] at hj
        exact keeps _ _ _ _ hne (inv.pre j hj) hcw
      · have : (a.put o.dst v).defers = a.defers := by unfold Act.put; split <;> rfl
        rw [this]; exact inv.defs
      · rw [put_other (hs i o h2' (by simp [hlt]))]
        refine inv.old s (fun j p hj hlj => hs j p hj (getD_set_true hlj))
      · by_cases e : j = i
        · subst e
          rw [h2'] at hj
          cases hj
          rw [hp]
          exact ⟨v, put_same (hsz s hp), hv⟩
        · have hne : o.dst ≠ some s := fun e2 => e (dst_one hd hj h2' hp e2)
          rw [put_other hne]
          obtain ⟨u, hu1, hu2⟩ := inv.val j p s hj ((gset j hlj).resolve_left e) hp
          exact ⟨u, hu1, stable _ _ _ _ _ e hu2 hcw⟩
      · have hcs := Array.count_set (a := true) (b := false) (xs := listed) (i := i) hlt
        rw [show listed.setIfInBounds i true = listed.set i true hlt from by simp [Array.setIfInBounds, hlt]]
        rw [hcs, hcur]
        simp
        omega
  have inv0 : ZInv l R Pre a0 (Array.replicate l.toArray.size false) a0 w0.drew := by
    have hno : ∀ i, (Array.replicate l.toArray.size false).getD i false = false := fun i => by
      rw [Array.getD_eq_getD_getElem?]
      by_cases h : i < l.toArray.size
      · simp only [Array.getElem?_replicate]; split <;> rfl
      · simp only [Array.getElem?_replicate]; split <;> rfl
    exact ⟨by simp, fun i _ => start i, rfl, rfl, fun s _ => rfl, fun i o s _ h => by rw [hno] at h; cases h⟩
  refine main l.toArray.size _ _ _ inv0 ?_
  simp [Array.count_replicate]
end
end Go.Proofs.YtlhfpnkfapghoaaDoor
end

section
/- What follows of a history (order.Of): the object that holds it. No condition but each theorem's own. -/
set_option linter.unusedVariables false
set_option linter.unusedSimpArgs false
namespace Go.Proofs.YtlhfpnkfapghoaaDoor
open Go.RowKit Go.Maps

/-- The object's cells. -/
def ordF (n : Int) (S T F : Nat → Nat) (m ks rs : Value) (b : Bool) (i : Nat) : Value :=
  if i = 0 then .int .i64 n else if i < 65 then .int .u64 (S (i - 1)) else if i < 129 then .int .u64 (T (i - 65)) else if i < 193 then .int .u64 (F (i - 129)) else if i = 193 then m else if i = 194 then ks else if i = 195 then rs else .bool b
def ordC (n : Int) (S T F : Nat → Nat) (m ks rs : Value) (b : Bool) : Array Value := arrOf 197 (ordF n S T F m ks rs b)
theorem ordC_built (n : Int) (gm k1 c1 k2 c2 : Nat) (A1 A2 : Option Addr) : Tryd.prog.built 110 [(0, .int .i64 n), (4, .map (some gm)), (5, .slice A1 k1 c1), (6, .slice A2 k2 c2), (7, .bool true)] = some (ordC n (fun _ => 0) (fun _ => 0) (fun _ => 0) (.map (some gm)) (.slice A1 k1 c1) (.slice A2 k2 c2) true) := by kernel_rfl
theorem eval_of {a : Act} {s : Nat} {v : Value} (h : a.tmps[s]? = some v) : a.eval (.tmp s) = v := by
  unfold Act.eval
  simp [h]
/-- What the operations of the composite literal yield. -/
def lit5 (w0 : World) (n : Nat) (h : Value) : Nat → Value → World → Prop
  | 0 => fun v _ => v = h
  | 1 => fun v _ => v = .int .i64 n
  | 2 => fun v w => ∃ gm, v = .map (some gm) ∧ w0.heap.size ≤ gm ∧ IMap Tryd.prog 3 w gm 0 fun _ => none
  | 3 => fun v _ => v = h
  | 4 => fun v _ => v = .int .i64 n
  | 5 => fun v w => ∃ A c, v = .slice A n c ∧ w.ownsRow w0.heap.size 35 1 (.slice A n c) n (List.replicate n (.slice none 0 0))
  | 6 => fun v _ => v = h
  | 7 => fun v _ => v = .int .i64 n
  | 8 => fun v w => ∃ A c, v = .slice A n c ∧ w.ownsRow w0.heap.size 144 1 (.slice A n c) n (List.replicate n (.slice none 0 0))
  | 9 => fun v w => ∃ gm A1 c1 A2 c2, v = .agg (ordC n (fun _ => 0) (fun _ => 0) (fun _ => 0) (.map (some gm)) (.slice A1 n c1) (.slice A2 n c2) true) ∧ w0.heap.size ≤ gm ∧ IMap Tryd.prog 3 w gm 0 (fun _ => none) ∧ w.ownsRow w0.heap.size 35 1 (.slice A1 n c1) n (List.replicate n (.slice none 0 0)) ∧ w.ownsRow w0.heap.size 144 1 (.slice A2 n c2) n (List.replicate n (.slice none 0 0))
  | _ => fun v w => ∃ go gm A1 c1 A2 c2, v = .pointer (some ⟨go, 0, none⟩) ∧ w0.heap.size ≤ go ∧ Blk w go (ordC n (fun _ => 0) (fun _ => 0) (fun _ => 0) (.map (some gm)) (.slice A1 n c1) (.slice A2 n c2) true) 110 ∧ w0.heap.size ≤ gm ∧ IMap Tryd.prog 3 w gm 0 (fun _ => none) ∧ w.ownsRow w0.heap.size 35 1 (.slice A1 n c1) n (List.replicate n (.slice none 0 0)) ∧ w.ownsRow w0.heap.size 144 1 (.slice A2 n c2) n (List.replicate n (.slice none 0 0))
theorem row_keep {w w' : World} {base e size n : Nat} {v : Value} {xs : List Value} (h : w.ownsRow base e size v n xs) (hc : Ch nob w w') : w'.ownsRow base e size v n xs := h.kept (grown_of_ch hc none) (by cases hv : v.ownBlock with | none => exact .inl rfl | some b => exact .inr (by simp))
theorem lit5_stable (w0 : World) (n : Nat) (h : Value) (i : Nat) (v : Value) (w w' : World) (hr : lit5 w0 n h i v w) (hc : Ch nob w w') : lit5 w0 n h i v w' := by
  match i with
  | 0 | 1 | 3 | 4 | 6 | 7 => exact hr
  | 2 =>
    obtain ⟨gm, h1, h2, h3⟩ := hr
    exact ⟨gm, h1, h2, h3.keep hc⟩
  | 5 | 8 =>
    obtain ⟨A, c, h1, h2⟩ := hr
    exact ⟨A, c, h1, row_keep h2 hc⟩
  | 9 =>
    obtain ⟨gm, A1, c1, A2, c2, h1, h2, h3, h4, h5⟩ := hr
    exact ⟨gm, A1, c1, A2, c2, h1, h2, h3.keep hc, row_keep h4 hc, row_keep h5 hc⟩
  | i + 10 =>
    obtain ⟨go, gm, A1, c1, A2, c2, h1, h2, h3, h4, h5, h6, h7⟩ := hr
    exact ⟨go, gm, A1, c1, A2, c2, h1, h2, h3.ch hc (fun h => h), h4, h5.keep hc, row_keep h6 hc, row_keep h7 hc⟩
theorem yield_run {P : Program} {ops : Array Oper} {o : Oper} {a : Act} {w w' : World} {v : Value} {K : Act → World → Prop} {Q : Exit → Act → World → Prop} (hg : o.guard = none) (hrun : (execOp a.eval o).run P w = .ok (.value v) w') (h : K (a.put o.dst v) w') : wpList P ops (Exit.then K Q) [o] a w :=
  wpList_plain hg fun K' hK' => by
    unfold Oper.wp
    rw [hrun]
    exact hK' _ _ h
theorem elem_ints : ElemOK Tryd.prog 83 35 (.slice none 0 0) 1 24 := ⟨by kernel_rfl, by kernel_rfl⟩
theorem elem_reads : ElemOK Tryd.prog 108 144 (.slice none 0 0) 1 24 := ⟨by kernel_rfl, by kernel_rfl⟩
theorem ch_of_grown_none2 {w w' : World} (h : w.grownBy w' none) : Ch nob w w' := ⟨h.os, h.tape, h.output, h.size, fun k hk _ => h.block k hk (by simp)⟩
end Go.Proofs.YtlhfpnkfapghoaaDoor
end

section
/- The object that holds what follows of a history: its cells, its rows, its map. No condition but each theorem's own. -/
set_option linter.unusedVariables false
set_option linter.unusedSimpArgs false
namespace Go.Proofs.YtlhfpnkfapghoaaDoor
open Go.RowKit Go.Maps

def setL (C : Array Value) : Nat → List Value → Array Value
  | _, [] => C
  | o, v :: r => setL (C.setIfInBounds o v) (o + 1) r
theorem Blk.setCells {g : Nat} {T : TypeId} : ∀ {vs : List Value} {o : Nat} {C : Array Value} {w : World}, Blk w g C T → Blk (w.setCells g o vs) g (setL C o vs) T
  | [], _, _, _, h => h
  | v :: r, o, C, w, h => Blk.setCells (vs := r) (h.set o v)
theorem Ch.setCells {g : Nat} : ∀ {vs : List Value} {o : Nat} {w w0 : World}, Ch (· = g) w0 w → Ch (· = g) w0 (w.setCells g o vs)
  | [], _, _, _, h => h
  | v :: r, o, w, w0, h => Ch.setCells (vs := r) (h.setCell _ _ (fun _ => rfl))
theorem setL_arrOf (N : Nat) : ∀ (vs : List Value) (o : Nat) (f : Nat → Value), setL (arrOf N f) o vs = arrOf N fun i => if o ≤ i ∧ i < o + vs.length then vs.getD (i - o) undef else f i
  | [], o, f => by
    unfold setL
    refine arrOf_ext fun i _ => ?_
    rw [if_neg (by simp)]
  | v :: r, o, f => by
    unfold setL
    rw [arrOf_set, setL_arrOf N r (o + 1)]
    refine arrOf_ext fun i _ => ?_
    by_cases h1 : o + 1 ≤ i ∧ i < o + 1 + r.length
    · rw [if_pos h1, if_pos (by simp; omega), show i - o = (i - (o + 1)) + 1 by omega]
      rfl
    · rw [if_neg h1]
      by_cases h2 : i = o
      · subst h2
        rw [if_pos rfl, if_pos (by simp), Nat.sub_self]
        rfl
      · rw [if_neg h2, if_neg (by simp; omega)]
theorem rel_getD (R : Nat → Nat) (i : Nat) (hi : i < 64) : (relArr R).toList.getD i undef = .int .u64 (R i) := by
  rw [List.getD_eq_getElem?_getD, Array.getElem?_toList, show (relArr R)[i]? = some (.int .u64 (R i)) from arrOf_get _ _ _ hi]
  rfl
theorem rel_len (R : Nat → Nat) : (relArr R).toList.length = 64 := by rw [Array.length_toList]; exact relArr_size R
section
variable (n : Int) (S T F : Nat → Nat) (m ks rs : Value) (b : Bool) (i : Nat)
theorem ordF_S (h : 1 ≤ i ∧ i < 65) : ordF n S T F m ks rs b i = .int .u64 (S (i - 1)) := by unfold ordF; rw [if_neg (by omega), if_pos (by omega)]
theorem ordF_T (h : 65 ≤ i ∧ i < 129) : ordF n S T F m ks rs b i = .int .u64 (T (i - 65)) := by unfold ordF; rw [if_neg (by omega), if_neg (by omega), if_pos (by omega)]
theorem ordF_F (h : 129 ≤ i ∧ i < 193) : ordF n S T F m ks rs b i = .int .u64 (F (i - 129)) := by unfold ordF; rw [if_neg (by omega), if_neg (by omega), if_neg (by omega), if_pos (by omega)]
theorem ordF_end (h : 196 ≤ i) : ordF n S T F m ks rs b i = .bool b := by unfold ordF; rw [if_neg (by omega), if_neg (by omega), if_neg (by omega), if_neg (by omega), if_neg (by omega), if_neg (by omega), if_neg (by omega)]
end
theorem ord_cases (i : Nat) : i = 0 ∨ (1 ≤ i ∧ i < 65) ∨ (65 ≤ i ∧ i < 129) ∨ (129 ≤ i ∧ i < 193) ∨ i = 193 ∨ i = 194 ∨ i = 195 ∨ 196 ≤ i := by omega
theorem ordC_session (n : Int) (S T F R : Nat → Nat) (m ks rs : Value) (b : Bool) : setL (ordC n S T F m ks rs b) 1 (relArr R).toList = ordC n R T F m ks rs b := by
  unfold ordC
  rw [setL_arrOf, rel_len]
  refine arrOf_ext fun i hi => ?_
  rcases ord_cases i with h | h | h | h | h | h | h | h
  · subst h; rfl
  · rw [if_pos (by omega), rel_getD _ _ (by omega), ordF_S _ _ _ _ _ _ _ _ _ h]
  · rw [if_neg (by omega), ordF_T _ _ _ _ _ _ _ _ _ h, ordF_T _ _ _ _ _ _ _ _ _ h]
  · rw [if_neg (by omega), ordF_F _ _ _ _ _ _ _ _ _ h, ordF_F _ _ _ _ _ _ _ _ _ h]
  · subst h; rfl
  · subst h; rfl
  · subst h; rfl
  · rw [if_neg (by omega), ordF_end _ _ _ _ _ _ _ _ _ h, ordF_end _ _ _ _ _ _ _ _ _ h]
theorem ordC_time (n : Int) (S T F R : Nat → Nat) (m ks rs : Value) (b : Bool) : setL (ordC n S T F m ks rs b) 65 (relArr R).toList = ordC n S R F m ks rs b := by
  unfold ordC
  rw [setL_arrOf, rel_len]
  refine arrOf_ext fun i hi => ?_
  rcases ord_cases i with h | h | h | h | h | h | h | h
  · subst h; rfl
  · rw [if_neg (by omega), ordF_S _ _ _ _ _ _ _ _ _ h, ordF_S _ _ _ _ _ _ _ _ _ h]
  · rw [if_pos (by omega), rel_getD _ _ (by omega), ordF_T _ _ _ _ _ _ _ _ _ h]
  · rw [if_neg (by omega), ordF_F _ _ _ _ _ _ _ _ _ h, ordF_F _ _ _ _ _ _ _ _ _ h]
  · subst h; rfl
  · subst h; rfl
  · subst h; rfl
  · rw [if_neg (by omega), ordF_end _ _ _ _ _ _ _ _ _ h, ordF_end _ _ _ _ _ _ _ _ _ h]
theorem ordC_at (n : Int) (S T F : Nat → Nat) (m ks rs : Value) (b : Bool) (i : Nat) (hi : i < 197) : (ordC n S T F m ks rs b)[i]? = some (ordF n S T F m ks rs b i) := arrOf_get _ _ _ hi
theorem ord_there {w : World} {go : Nat} {n : Int} {S T F : Nat → Nat} {m ks rs : Value} {b : Bool} {X : TypeId} (h : Blk w go (ordC n S T F m ks rs b) X) (o k : Nat) (hk : o + k ≤ 197) : w.there go o k := fun j hj => by
  refine ⟨?_, h.free _⟩
  rw [h.cell (ordC_at n S T F m ks rs b (o + j) (by omega))]
  rfl
theorem ord_session {w : World} {go : Nat} {n : Int} {S T F : Nat → Nat} {m ks rs : Value} {b : Bool} {X : TypeId} (h : Blk w go (ordC n S T F m ks rs b) X) : w.rangeAt go 1 (relArr S).toList := fun j v hv => by
  have hj : j < 64 := by rw [← rel_len S]; exact (List.getElem?_eq_some_iff.1 hv).1
  rw [h.cell (ordC_at n S T F m ks rs b (1 + j) (by omega))]
  rw [Array.getElem?_toList, show (relArr S)[j]? = some (.int .u64 (S j)) from arrOf_get _ _ _ hj] at hv
  cases hv
  unfold ordF
  rw [if_neg (by omega), if_pos (by omega), show 1 + j - 1 = j by omega]
theorem ord_time {w : World} {go : Nat} {n : Int} {S T F : Nat → Nat} {m ks rs : Value} {b : Bool} {X : TypeId} (h : Blk w go (ordC n S T F m ks rs b) X) : w.rangeAt go 65 (relArr T).toList := fun j v hv => by
  have hj : j < 64 := by rw [← rel_len T]; exact (List.getElem?_eq_some_iff.1 hv).1
  rw [h.cell (ordC_at n S T F m ks rs b (65 + j) (by omega))]
  rw [Array.getElem?_toList, show (relArr T)[j]? = some (.int .u64 (T j)) from arrOf_get _ _ _ hj] at hv
  cases hv
  unfold ordF
  rw [if_neg (by omega), if_neg (by omega), if_pos (by omega), show 65 + j - 65 = j by omega]
theorem ord_from {w : World} {go : Nat} {n : Int} {S T F : Nat → Nat} {m ks rs : Value} {b : Bool} {X : TypeId} (h : Blk w go (ordC n S T F m ks rs b) X) : w.rangeAt go 129 (relArr F).toList := fun j v hv => by
  have hj : j < 64 := by rw [← rel_len F]; exact (List.getElem?_eq_some_iff.1 hv).1
  rw [h.cell (ordC_at n S T F m ks rs b (129 + j) (by omega))]
  rw [Array.getElem?_toList, show (relArr F)[j]? = some (.int .u64 (F j)) from arrOf_get _ _ _ hj] at hv
  cases hv
  unfold ordF
  rw [if_neg (by omega), if_neg (by omega), if_neg (by omega), if_pos (by omega), show 129 + j - 129 = j by omega]
/-- Single cells. -/
theorem ord_n {w : World} {go : Nat} {n : Int} {S T F : Nat → Nat} {m ks rs : Value} {b : Bool} {X : TypeId} (h : Blk w go (ordC n S T F m ks rs b) X) : w.cell? ⟨go, 0, none⟩ = some (.int .i64 n) := h.cell (ordC_at n S T F m ks rs b 0 (by omega))
theorem ord_map {w : World} {go : Nat} {n : Int} {S T F : Nat → Nat} {m ks rs : Value} {b : Bool} {X : TypeId} (h : Blk w go (ordC n S T F m ks rs b) X) : w.cell? ⟨go, 193, none⟩ = some m := h.cell (ordC_at n S T F m ks rs b 193 (by omega))
theorem ord_keys {w : World} {go : Nat} {n : Int} {S T F : Nat → Nat} {m ks rs : Value} {b : Bool} {X : TypeId} (h : Blk w go (ordC n S T F m ks rs b) X) : w.cell? ⟨go, 194, none⟩ = some ks := h.cell (ordC_at n S T F m ks rs b 194 (by omega))
theorem ord_reads {w : World} {go : Nat} {n : Int} {S T F : Nat → Nat} {m ks rs : Value} {b : Bool} {X : TypeId} (h : Blk w go (ordC n S T F m ks rs b) X) : w.cell? ⟨go, 195, none⟩ = some rs := h.cell (ordC_at n S T F m ks rs b 195 (by omega))
theorem ord_sound {w : World} {go : Nat} {n : Int} {S T F : Nat → Nat} {m ks rs : Value} {b : Bool} {X : TypeId} (h : Blk w go (ordC n S T F m ks rs b) X) : w.cell? ⟨go, 196, none⟩ = some (.bool b) := h.cell (ordC_at n S T F m ks rs b 196 (by omega))
theorem ordC_sound (n : Int) (S T F : Nat → Nat) (m ks rs : Value) (b c : Bool) : (ordC n S T F m ks rs b).setIfInBounds 196 (.bool c) = ordC n S T F m ks rs c := by
  unfold ordC
  rw [arrOf_set]
  refine arrOf_ext fun i hi => ?_
  rcases ord_cases i with h | h | h | h | h | h | h | h
  · subst h; rfl
  · rw [if_neg (by omega), ordF_S _ _ _ _ _ _ _ _ _ h, ordF_S _ _ _ _ _ _ _ _ _ h]
  · rw [if_neg (by omega), ordF_T _ _ _ _ _ _ _ _ _ h, ordF_T _ _ _ _ _ _ _ _ _ h]
  · rw [if_neg (by omega), ordF_F _ _ _ _ _ _ _ _ _ h, ordF_F _ _ _ _ _ _ _ _ _ h]
  · subst h; rfl
  · subst h; rfl
  · subst h; rfl
  · rw [if_pos (by omega), ordF_end _ _ _ _ _ _ _ _ _ h]
theorem ordC_from (n : Int) (S T F : Nat → Nat) (m ks rs : Value) (b : Bool) (a s : Nat) (ha : a < 64) : (ordC n S T F m ks rs b).setIfInBounds (129 + a) (.int .u64 s) = ordC n S T (rowSet F a s) m ks rs b := by
  unfold ordC
  rw [arrOf_set]
  refine arrOf_ext fun i hi => ?_
  rcases ord_cases i with h | h | h | h | h | h | h | h
  · subst h; rw [if_neg (by omega)]; rfl
  · rw [if_neg (by omega), ordF_S _ _ _ _ _ _ _ _ _ h, ordF_S _ _ _ _ _ _ _ _ _ h]
  · rw [if_neg (by omega), ordF_T _ _ _ _ _ _ _ _ _ h, ordF_T _ _ _ _ _ _ _ _ _ h]
  · rw [ordF_F _ _ _ _ _ _ _ _ _ h, ordF_F _ _ _ _ _ _ _ _ _ h]
    unfold rowSet
    by_cases e : i = 129 + a
    · rw [if_pos e, if_pos (by omega)]
    · rw [if_neg e, if_neg (by omega)]
  · subst h; rw [if_neg (by omega)]; rfl
  · subst h; rw [if_neg (by omega)]; rfl
  · subst h; rw [if_neg (by omega)]; rfl
  · rw [if_neg (by omega), ordF_end _ _ _ _ _ _ _ _ _ h, ordF_end _ _ _ _ _ _ _ _ _ h]
end Go.Proofs.YtlhfpnkfapghoaaDoor
end

section
/- A pair added to a relation that lies within the object (rel.Add at From). No condition but each theorem's own. -/
set_option linter.unusedVariables false
set_option linter.unusedSimpArgs false
namespace Go.Proofs.YtlhfpnkfapghoaaDoor
open Go.RowKit Go.Maps

theorem mid_add (g o k : Nat) : (⟨g, o, none⟩ : Addr).add k = ⟨g, o + k, none⟩ := by unfold Addr.add; split <;> simp_all
set_option maxRecDepth 100000 in
set_option maxHeartbeats 2000000 in
theorem add_from (w : World) (go : Nat) (N : Int) (S T F : Nat → Nat) (m ks rs : Value) (d : Bool) (X : TypeId) (ok : RelOK F) (a b : Int) (hb : Blk w go (ordC N S T F m ks rs d) X) :
    Calls Tryd.prog 19 #[.pointer (some ⟨go, 129, none⟩), .int .i64 a, .int .i64 b] w fun e w' => e = .returned (.bool (inS a && inS b)) ∧ Blk w' go (ordC N S T (addR F a b) m ks rs d) X ∧ Ch (· = go) w w' := by
  by_cases h : (0 ≤ a ∧ a < 64) ∧ (0 ≤ b ∧ b < 64)
  · obtain ⟨⟨h0, h1⟩, h2, h3⟩ := h
    obtain ⟨n, rfl⟩ := Int.eq_ofNat_of_zero_le h0
    have hx : w.cell? ((⟨go, 129, none⟩ : Addr).add n) = some (.int .u64 (F n)) := by
      rw [mid_add, hb.cell (ordC_at N S T F m ks rs d (129 + n) (by omega)), ordF_F _ _ _ _ _ _ _ _ _ (by omega), show 129 + n - 129 = n by omega]
    have hf : w.frozen? ((⟨go, 129, none⟩ : Addr).add n) = false := by rw [mid_add]; exact hb.free _
    have hlt := ok n
    have d1 : decide ((n : Int) < 0) = false := decide_eq_false (by omega)
    have d2 : decide ((64 : Int) ≤ (n : Int)) = false := decide_eq_false (by omega)
    have d3 : decide (b < 0) = false := decide_eq_false (by omega)
    have d4 : decide (64 ≤ b) = false := decide_eq_false (by omega)
    have hin : (inS (n : Int) && inS b) = true := by unfold inS; rw [decide_eq_true (by omega), decide_eq_true (by omega)]; rfl
    have HB := hb.set (129 + n) (.int .u64 (withS (F n) b : Nat))
    rw [ordC_from _ _ _ _ _ _ _ _ _ _ (by omega)] at HB
    have HE := Lib.hid (show addR F (n : Int) b = rowSet F n (withS (F n) b) from by unfold addR; rw [hin]; rfl)
    rw [← HE.out, ← mid_add] at HB
    have hch : Ch (· = go) w (w.setCell ((⟨go, 129, none⟩ : Addr).add n) (.int .u64 (withS (F n) b : Nat))) := (Ch.refl _ _).setCell _ _ (fun _ => by rw [mid_add])
    have HI := Lib.hid hin
    obtain ⟨s, hs⟩ : ∃ s, F n = s := ⟨_, rfl⟩
    rw [hs] at hx hlt HB hch
    obtain ⟨ad, had⟩ : ∃ ad, (⟨go, 129, none⟩ : Addr) = ad := ⟨_, rfl⟩
    rw [had] at hx hf HB hch ⊢
    clear hb hin hs had
    go_enter Tryd.func19, Tryd.ntmps19
    go_wp2_with fail
    go_region_with (go_at_call 76; refine (with_set s b _ hlt).mono ?_; rintro e w2 ⟨rfl, rfl⟩)
    all_goals
      go_wp2_with fail
      go_ret
      exact ⟨ret_bool HI.out.symm, HB.drew, hch.drew⟩
  · have hin : (inS a && inS b) = false := by
      unfold inS
      rw [Bool.and_eq_false_iff, decide_eq_false_iff_not, decide_eq_false_iff_not]
      omega
    have HI := Lib.hid hin
    have hb2 : Blk w go (ordC N S T (addR F a b) m ks rs d) X := by unfold addR; rw [hin]; exact hb
    clear hb hin ok
    have hways : a < 0 ∨ (0 ≤ a ∧ 64 ≤ a) ∨ (0 ≤ a ∧ a < 64 ∧ b < 0) ∨ (0 ≤ a ∧ a < 64 ∧ 0 ≤ b ∧ 64 ≤ b) := by omega
    clear h
    rcases hways with h | ⟨h1, h2⟩ | ⟨h1, h2, h3⟩ | ⟨h1, h2, h3, h4⟩
    · have d1 : decide (a < 0) = true := decide_eq_true (by omega)
      go_enter Tryd.func19, Tryd.ntmps19
      go_wp2_with fail
      go_ret
      exact ⟨ret_bool HI.out.symm, hb2, Ch.refl _ _⟩
    · have d1 : decide (a < 0) = false := decide_eq_false (by omega)
      have d2 : decide ((64 : Int) ≤ a) = true := decide_eq_true (by omega)
      go_enter Tryd.func19, Tryd.ntmps19
      go_wp2_with fail
      go_ret
      exact ⟨ret_bool HI.out.symm, hb2, Ch.refl _ _⟩
    · have d1 : decide (a < 0) = false := decide_eq_false (by omega)
      have d2 : decide ((64 : Int) ≤ a) = false := decide_eq_false (by omega)
      have d3 : decide (b < 0) = true := decide_eq_true (by omega)
      go_enter Tryd.func19, Tryd.ntmps19
      go_wp2_with fail
      go_ret
      exact ⟨ret_bool HI.out.symm, hb2, Ch.refl _ _⟩
    · have d1 : decide (a < 0) = false := decide_eq_false (by omega)
      have d2 : decide ((64 : Int) ≤ a) = false := decide_eq_false (by omega)
      have d3 : decide (b < 0) = false := decide_eq_false (by omega)
      have d4 : decide (64 ≤ b) = true := decide_eq_true (by omega)
      go_enter Tryd.func19, Tryd.ntmps19
      go_wp2_with fail
      go_ret
      exact ⟨ret_bool HI.out.symm, hb2, Ch.refl _ _⟩
end Go.Proofs.YtlhfpnkfapghoaaDoor
end

section
/- The object that holds what follows of a history, whole: its rows and its map apart. No condition but each theorem's own. -/
set_option linter.unusedVariables false
set_option linter.unusedSimpArgs false
namespace Go.Proofs.YtlhfpnkfapghoaaDoor
open Go.RowKit Go.Maps

theorem row_blk_ne {w : World} {base e size n g : Nat} {v : Value} {xs : List Value} {C : Array Value} {T : TypeId} (h : w.ownsRow base e size v n xs) (hb : Blk w g C T) (hne : e ≠ T) : v.ownBlock ≠ some g := by
  rcases h.2 with ⟨hv, _⟩ | ⟨g2, _, _, hv, _, hg, _⟩
  · rw [hv]; intro e2; cases e2
  · rw [hv]
    intro e2
    have e3 : g2 = g := by simpa [Value.ownBlock] using e2
    have hb' : w.heap[g]? = some (.cells C T (0, 0)) := hb
    rw [e3, hb'] at hg
    simp at hg
    exact hne hg.2.symm
theorem row_row_ne {w : World} {b1 b2 e1 e2 s1 s2 n m : Nat} {v u : Value} {xs ys : List Value} (h : w.ownsRow b1 e1 s1 v n xs) (k : w.ownsRow b2 e2 s2 u m ys) (hne : e1 ≠ e2) (b : Nat) (hb : v.ownBlock = some b) : u.ownBlock ≠ some b := by
  rcases h.2 with ⟨hv, _⟩ | ⟨g, _, _, hv, _, hg, _⟩
  · rw [hv] at hb; cases hb
  · rw [hv] at hb
    have e : g = b := by simpa [Value.ownBlock] using hb
    rw [e] at hg
    exact row_blk_ne k (T := e1) hg (Ne.symm hne)
theorem row_map_ne {P : Program} {K : TypeId} {w : World} {base e size n b c : Nat} {v : Value} {xs : List Value} {f : Int → Option Value} (h : w.ownsRow base e size v n xs) (hm : IMap P K w b c f) : v.ownBlock ≠ some b := by
  obtain ⟨D, ⟨es, clock, hb, _⟩, _⟩ := hm
  rcases h.2 with ⟨hv, _⟩ | ⟨g, _, _, hv, _, hg, _⟩
  · rw [hv]; intro e2; cases e2
  · rw [hv]
    intro e2
    have e3 : g = b := by simpa [Value.ownBlock] using e2
    rw [e3, hb] at hg
    simp at hg
theorem blk_map_ne {P : Program} {K : TypeId} {w : World} {g b c : Nat} {C : Array Value} {T : TypeId} {f : Int → Option Value} (h : Blk w g C T) (hm : IMap P K w b c f) : g ≠ b := by
  obtain ⟨D, ⟨es, clock, hb, _⟩, _⟩ := hm
  intro e
  have h' : w.heap[g]? = some (.cells C T (0, 0)) := h
  rw [e, hb] at h'
  simp at h'
/-- What a transaction reads: keys, and of which transaction; as cells. -/
def flatR : List (Int × Int) → List Value
  | [] => []
  | p :: l => .int .i64 p.1 :: .int .i64 p.2 :: flatR l
theorem flatR_len (l : List (Int × Int)) : (flatR l).length = l.length * 2 := by
  induction l with
  | nil => rfl
  | cons p l ih => simp only [flatR, List.length_cons, ih]; omega
theorem flatR_append (a b : List (Int × Int)) : flatR (a ++ b) = flatR a ++ flatR b := by
  induction a with
  | nil => rfl
  | cons p l ih => simp only [List.cons_append, flatR, ih]
def OwnR (w : World) (base : Nat) (v : Value) (xs : List (Int × Int)) : Prop := w.ownsRow base 145 2 v xs.length (flatR xs)
/-- A map of sets. -/
def setF (f : Int → Option Nat) : Int → Option Value := fun k => (f k).map fun s => .int .u64 (s : Nat)
/-- The object, whole. -/
structure Ords (w : World) (base go gm c n : Nat) (S T F : Nat → Nat) (f : Int → Option Nat) (A1 : Option Addr) (c1 : Nat) (A2 : Option Addr) (c2 : Nat) (KV RV : Nat → Value) (ks : Nat → List Int) (rs : Nat → List (Int × Int)) (snd : Bool) : Prop where
  ge : base ≤ go ∧ base ≤ gm
  blk : Blk w go (ordC n S T F (.map (some gm)) (.slice A1 n c1) (.slice A2 n c2) snd) 110
  map : IMap Tryd.prog 3 w gm c (setF f)
  krow : w.ownsRow base 35 1 (.slice A1 n c1) n ((List.range n).map KV)
  rrow : w.ownsRow base 144 1 (.slice A2 n c2) n ((List.range n).map RV)
  kv : ∀ i, i < n → OwnK .i64 w base 3 (KV i) (ks i)
  rv : ∀ i, i < n → OwnR w base (RV i) (rs i)
  kap : ∀ i j, i < n → j < n → i ≠ j → ∀ b, (KV i).ownBlock = some b → (KV j).ownBlock ≠ some b
  rap : ∀ i j, i < n → j < n → i ≠ j → ∀ b, (RV i).ownBlock = some b → (RV j).ownBlock ≠ some b
section
variable {w w' : World} {base go gm c n : Nat} {S T F : Nat → Nat} {f : Int → Option Nat} {A1 A2 : Option Addr} {c1 c2 : Nat} {KV RV : Nat → Value} {ks : Nat → List Int} {rs : Nat → List (Int × Int)} {snd : Bool}
theorem row_other {base e size n g : Nat} {v : Value} {xs : List Value} (h : w.ownsRow base e size v n xs) (hc : Ch (· = g) w w') (hn : v.ownBlock ≠ some g) : w'.ownsRow base e size v n xs :=
  h.kept (grown_of_ch1 hc) (.inr hn)
theorem Ords.keep (h : Ords w base go gm c n S T F f A1 c1 A2 c2 KV RV ks rs snd) (hc : Ch nob w w') : Ords w' base go gm c n S T F f A1 c1 A2 c2 KV RV ks rs snd :=
  ⟨h.ge, h.blk.ch hc (fun h => h), h.map.keep hc, row_keep h.krow hc, row_keep h.rrow hc, fun i hi => (h.kv i hi).keep hc, fun i hi => row_keep (h.rv i hi) hc, h.kap, h.rap⟩
/-- The object's own cells are written. -/
theorem Ords.obj {S2 T2 F2 : Nat → Nat} {snd2 : Bool} (h : Ords w base go gm c n S T F f A1 c1 A2 c2 KV RV ks rs snd) (hc : Ch (· = go) w w') (hb : Blk w' go (ordC n S2 T2 F2 (.map (some gm)) (.slice A1 n c1) (.slice A2 n c2) snd2) 110) : Ords w' base go gm c n S2 T2 F2 f A1 c1 A2 c2 KV RV ks rs snd2 :=
  ⟨h.ge, hb, h.map.ch hc (fun e => blk_map_ne h.blk h.map (show gm = go from e).symm), row_other h.krow hc (row_blk_ne h.krow h.blk (by decide)), row_other h.rrow hc (row_blk_ne h.rrow h.blk (by decide)),
    fun i hi => row_other (h.kv i hi) hc (row_blk_ne (h.kv i hi) h.blk (by decide)), fun i hi => row_other (h.rv i hi) hc (row_blk_ne (h.rv i hi) h.blk (by decide)), h.kap, h.rap⟩
/-- The map is written. -/
theorem Ords.put {c3 : Nat} {f2 : Int → Option Nat} (h : Ords w base go gm c n S T F f A1 c1 A2 c2 KV RV ks rs snd) (hc : Ch (· = gm) w w') (hm : IMap Tryd.prog 3 w' gm c3 (setF f2)) : Ords w' base go gm c3 n S T F f2 A1 c1 A2 c2 KV RV ks rs snd :=
  ⟨h.ge, h.blk.ch hc (fun e => blk_map_ne h.blk h.map (show go = gm from e)), hm, row_other h.krow hc (row_map_ne h.krow h.map), row_other h.rrow hc (row_map_ne h.rrow h.map),
    fun i hi => row_other (h.kv i hi) hc (row_map_ne (h.kv i hi) h.map), fun i hi => row_other (h.rv i hi) hc (row_map_ne (h.rv i hi) h.map), h.kap, h.rap⟩
theorem map_set (n i : Nat) (V : Nat → Value) (u : Value) : ((List.range n).map V).set i u = (List.range n).map fun j => if j = i then u else V j := by
  apply List.ext_getElem
  · simp
  · intro j h1 h2
    simp only [List.getElem_set, List.getElem_map, List.getElem_range]
    by_cases e : i = j
    · simp [e]
    · simp [e, Ne.symm e]
/-- A row of keys has grown, and stands in its place. -/
theorem Ords.kpush {w2 : World} {i g : Nat} {u : Value} {k : Int} (h : Ords w base go gm c n S T F f (some ⟨g, 0, none⟩) c1 A2 c2 KV RV ks rs snd) (hi : i < n) (hg : w.grownBy w' (KV i).ownBlock) (hu : OwnK .i64 w' base 3 u (ks i ++ [k])) (hnew : ∀ b, u.ownBlock = some b → (KV i).ownBlock = some b ∨ w.heap.size ≤ b) (h2 : w2 = w'.setCell ⟨g, i, none⟩ u) :
    Ords w2 base go gm c n S T F f (some ⟨g, 0, none⟩) c1 A2 c2 (fun j => if j = i then u else KV j) RV (fun j => if j = i then ks i ++ [k] else ks j) rs snd := by
  have hkr := h.krow.kept hg (.inr (fun e => by
    have := row_row_ne h.krow (h.kv i hi) (by decide) g rfl
    exact this e.symm))
  have hcs : Ch (· = g) w' w2 := by rw [h2]; exact (Ch.refl _ _).setCell _ _ (fun _ => rfl)
  have hst := (World.ownsRow.stored hkr i u).1
  rw [map_set, ← h2] at hst
  have other : ∀ {e size m : Nat} {v : Value} {xs : List Value}, w.ownsRow base e size v m xs → e ≠ 3 → e ≠ 35 → w2.ownsRow base e size v m xs := fun {e size m v xs} hr h1 h3 => by
    have hr2 := hr.kept hg (by
      cases hb : (KV i).ownBlock with
      | none => cases hv : v.ownBlock with
        | none => exact .inl rfl
        | some b => exact .inr (by simp)
      | some b => exact .inr (row_row_ne (h.kv i hi) hr (Ne.symm h1) b hb))
    exact row_other hr2 hcs (row_row_ne hkr hr2 (Ne.symm h3) g rfl)
  have hb' : Blk w' go (ordC n S T F (.map (some gm)) (.slice (some ⟨g, 0, none⟩) n c1) (.slice A2 n c2) snd) 110 := h.blk.grown hg (row_blk_ne (h.kv i hi) h.blk (by decide))
  have hm' : IMap Tryd.prog 3 w' gm c (setF f) := h.map.ch (Ch.toGrown hg) (row_map_ne (h.kv i hi) h.map)
  refine ⟨h.ge, hb'.ch hcs (fun e => ?_), hm'.ch hcs (fun e => ?_), hst, other h.rrow (by decide) (by decide), fun j hj => ?_, fun j hj => other (h.rv j hj) (by decide) (by decide), fun a b ha hb hne q hq => ?_, h.rap⟩
  · have e' : go = g := e
    rw [e'] at hb'
    exact row_blk_ne hkr hb' (by decide) rfl
  · have e' : gm = g := e
    rw [e'] at hm'
    exact row_map_ne hkr hm' rfl
  · by_cases e : j = i
    · rw [if_pos e, if_pos e]
      exact row_other hu hcs (row_row_ne hkr hu (by decide) g rfl)
    · rw [if_neg e, if_neg e]
      have h3 : OwnK .i64 w' base 3 (KV j) (ks j) := (h.kv j hj).grown hg (fun b hb e2 => h.kap j i hj hi e b hb e2)
      exact row_other h3 hcs (row_row_ne hkr h3 (by decide) g rfl)
  · have hq : (if a = i then u else KV a).ownBlock = some q := hq
    show (if b = i then u else KV b).ownBlock ≠ some q
    by_cases e1 : a = i
    · rw [if_pos e1] at hq
      by_cases e2 : b = i
      · omega
      · rw [if_neg e2]
        intro h3
        rcases hnew q hq with h4 | h4
        · exact h.kap i b hi hb (Ne.symm e2) q h4 h3
        · have := ((h.kv b hb).ge q h3).2; omega
    · rw [if_neg e1] at hq
      by_cases e2 : b = i
      · rw [if_pos e2]
        intro h3
        rcases hnew q h3 with h4 | h4
        · exact h.kap a i ha hi e1 q hq h4
        · have := ((h.kv a ha).ge q hq).2; omega
      · rw [if_neg e2]
        exact h.kap a b ha hb hne q hq
/-- A row of reads has grown, and stands in its place. -/
theorem Ords.rpush {w2 : World} {i g : Nat} {u : Value} {k : Int × Int} (h : Ords w base go gm c n S T F f A1 c1 (some ⟨g, 0, none⟩) c2 KV RV ks rs snd) (hi : i < n) (hg : w.grownBy w' (RV i).ownBlock) (hu : OwnR w' base u (rs i ++ [k])) (hnew : ∀ b, u.ownBlock = some b → (RV i).ownBlock = some b ∨ w.heap.size ≤ b) (h2 : w2 = w'.setCell ⟨g, i, none⟩ u) :
    Ords w2 base go gm c n S T F f A1 c1 (some ⟨g, 0, none⟩) c2 KV (fun j => if j = i then u else RV j) ks (fun j => if j = i then rs i ++ [k] else rs j) snd := by
  have hkr := h.rrow.kept hg (.inr (fun e => by
    have := row_row_ne h.rrow (h.rv i hi) (by decide) g rfl
    exact this e.symm))
  have hcs : Ch (· = g) w' w2 := by rw [h2]; exact (Ch.refl _ _).setCell _ _ (fun _ => rfl)
  have hst := (World.ownsRow.stored hkr i u).1
  rw [map_set, ← h2] at hst
  have other : ∀ {e size m : Nat} {v : Value} {xs : List Value}, w.ownsRow base e size v m xs → e ≠ 145 → e ≠ 144 → w2.ownsRow base e size v m xs := fun {e size m v xs} hr h1 h3 => by
    have hr2 := hr.kept hg (by
      cases hb : (RV i).ownBlock with
      | none => cases hv : v.ownBlock with
        | none => exact .inl rfl
        | some b => exact .inr (by simp)
      | some b => exact .inr (row_row_ne (h.rv i hi) hr (Ne.symm h1) b hb))
    exact row_other hr2 hcs (row_row_ne hkr hr2 (Ne.symm h3) g rfl)
  have hb' : Blk w' go (ordC n S T F (.map (some gm)) (.slice A1 n c1) (.slice (some ⟨g, 0, none⟩) n c2) snd) 110 := h.blk.grown hg (row_blk_ne (h.rv i hi) h.blk (by decide))
  have hm' : IMap Tryd.prog 3 w' gm c (setF f) := h.map.ch (Ch.toGrown hg) (row_map_ne (h.rv i hi) h.map)
  refine ⟨h.ge, hb'.ch hcs (fun e => ?_), hm'.ch hcs (fun e => ?_), other h.krow (by decide) (by decide), hst, fun j hj => other (h.kv j hj) (by decide) (by decide), fun j hj => ?_, h.kap, fun a b ha hb hne q hq => ?_⟩
  · have e' : go = g := e
    rw [e'] at hb'
    exact row_blk_ne hkr hb' (by decide) rfl
  · have e' : gm = g := e
    rw [e'] at hm'
    exact row_map_ne hkr hm' rfl
  · by_cases e : j = i
    · rw [if_pos e, if_pos e]
      exact row_other hu hcs (row_row_ne hkr hu (by decide) g rfl)
    · rw [if_neg e, if_neg e]
      have h3 : OwnR w' base (RV j) (rs j) := (h.rv j hj).kept hg (by
        cases hb : (RV j).ownBlock with
        | none => exact .inl rfl
        | some b => exact .inr (fun e2 => h.rap j i hj hi e b hb e2.symm))
      exact row_other h3 hcs (row_row_ne hkr h3 (by decide) g rfl)
  · have hq : (if a = i then u else RV a).ownBlock = some q := hq
    show (if b = i then u else RV b).ownBlock ≠ some q
    by_cases e1 : a = i
    · rw [if_pos e1] at hq
      by_cases e2 : b = i
      · omega
      · rw [if_neg e2]
        intro h3
        rcases hnew q hq with h4 | h4
        · exact h.rap i b hi hb (Ne.symm e2) q h4 h3
        · have := ((h.rv b hb).lt q h3).2; omega
    · rw [if_neg e1] at hq
      by_cases e2 : b = i
      · rw [if_pos e2]
        intro h3
        rcases hnew q h3 with h4 | h4
        · exact h.rap a i ha hi e1 q hq h4
        · have := ((h.rv a ha).lt q hq).2; omega
      · rw [if_neg e2]
        exact h.rap a b ha hb hne q hq
end
end Go.Proofs.YtlhfpnkfapghoaaDoor
end

section
/- An append to an own row, and where its result lies; the object's row of keys. No condition but each theorem's own. -/
set_option linter.unusedVariables false
set_option linter.unusedSimpArgs false
namespace Go.Proofs.YtlhfpnkfapghoaaDoor
open Go.RowKit Go.Maps

theorem ownsRow_base {w : World} {b b' e size n : Nat} {v : Value} {xs : List Value} (h : w.ownsRow b' e size v n xs) (hb : b ≤ b') : w.ownsRow b e size v n xs := by
  refine ⟨h.1, ?_⟩
  rcases h.2 with h2 | ⟨g, cap, cur, h3, h4, h5⟩
  · exact .inl h2
  · exact .inr ⟨g, cap, cur, h3, Nat.le_trans hb h4, h5⟩
theorem grown_any {w w' : World} {row : Option Nat} (h : w.grownBy w' none) : w.grownBy w' row := ⟨h.os, h.tape, h.output, h.size, fun k hk _ => h.block k hk (by simp)⟩
/-- 'append(s, x)', one element: the result lies where the row lay, or in a new block. -/
theorem step_append_sep {P : Program} {ops : Array Oper} {o : Oper} {a : Act} {w : World} {K : Act → World → Prop} {Q : Exit → Act → World → Prop} {E : Prop} (hgd : o.guard = none) (s x : Operand) (t e : TypeId)
    (ho : o.op = .call { callee := .builtin .append, args := #[s, x], argTypes := #[t, t] }) (z : Value) (size bytes : Nat) (he : ElemOK P t e z size bytes) (hz : z.cells.size = size) (hsz : 0 < size) (hby : bytes ≤ 1000)
    (base : Nat) (v : Value) (n : Nat) (xs : List Value) (hs : a.eval s = v) (hown : w.ownsRow base e size v n xs)
    (g : Nat) (news : Array Value) (T : TypeId) (hx : a.eval x = .slice (some ⟨g, 0, none⟩) 1 1) (hb : Blk w g news T) (hl : news.size = size) (h1 : ∀ u ∈ news.toList, u.oneCell' = true) (hn : n ≤ 1000000) (hbase : base ≤ w.heap.size)
    (h : ∀ v' w', w'.ownsRow base e size v' (n + 1) (xs ++ news.toList) → w.grownBy w' v.ownBlock → (∀ b, v'.ownBlock = some b → v.ownBlock = some b ∨ w.heap.size ≤ b) → K (a.put o.dst v') w') : if Region.wanted o (yielded ops a.tmps) = true then Oper.wp P o a w K Q else E := by
  have hw : Region.wanted o (yielded ops a.tmps) = true := by simp [Region.wanted, hgd]
  obtain ⟨i, hi, hz0, hz1, hz2⟩ := he.get
  have hnews : ∀ j u, news.toList[j]? = some u → w.cell? ((⟨g, 0, none⟩ : Addr).add j) = some u := fun j u hu => by
    rw [show (⟨g, 0, none⟩ : Addr).add j = ⟨g, j, none⟩ from by unfold Addr.add; split <;> simp_all]
    exact hb.cell (by simpa using hu)
  have hbytes : (n + 1) * bytes ≤ 140737488355328 := Nat.le_trans (Nat.mul_le_mul (show n + 1 ≤ 1000001 by omega) hby) (by decide)
  rcases hown.2 with ⟨hv, hn0⟩ | ⟨g2, cap, cur, hv, hbg, hg, hnc, hcm, hcs, htake⟩
  · subst hn0
    have hx0 : xs = [] := List.eq_nil_of_length_eq_zero (by simpa using hown.1)
    subst hx0
    exact step_append_grows (E := E) hgd s x t ho e i z size bytes he.under hi hz0 hz1 hz2 hz hsz none 0 0 [] (hs.trans hv) (fun _ => ⟨rfl, rfl⟩) (by simp) (fun b hb => by cases hb) ⟨g, 0, none⟩ 1 1 news.toList hx (by simp [hl]) hnews h1 (by omega) (by unfold maxLen; omega) hbytes
      (fun v' w' r1 r2 => h v' w' (ownsRow_base r1 hbase) (grown_any r2) (fun b hb => .inr (r1.lt b hb).1))
  · by_cases hroom : n + 1 ≤ cap
    · rw [if_pos hw]
      subst hv
      obtain ⟨w', hrun, r1, r2⟩ := run_append_fits (P := P) w base t o.type e i size he.under hi hz1 g2 n cap xs hown ⟨g, 0, none⟩ 1 1 news.toList (by simp [hl]) hnews h1 hroom
      unfold Oper.wp
      simp [execOp, ho, resolve, invoke, builtin, hs, hx, hrun, Result.andThen]
      exact h _ _ r1 r2 (fun b hb => .inl hb)
    · subst hv
      exact step_append_grows (E := E) hgd s x t ho e i z size bytes he.under hi hz0 hz1 hz2 hz hsz (some ⟨g2, 0, none⟩) n cap xs hs (fun h => by cases h) hown.1 (fun b hb j u hu => by cases hb; exact hown.cells (g := g2) rfl j u hu) ⟨g, 0, none⟩ 1 1 news.toList hx (by simp [hl]) hnews h1 (by omega) (by unfold maxLen; omega) hbytes
        (fun v' w' r1 r2 => h v' w' (ownsRow_base r1 hbase) (grown_any r2) (fun b hb => .inr (r1.lt b hb).1))
end Go.Proofs.YtlhfpnkfapghoaaDoor
end

section
/- Who writes to which key, and the keys of each: in plain words. No condition but each theorem's own. -/
set_option linter.unusedVariables false
set_option linter.unusedSimpArgs false
namespace Go.Proofs.YtlhfpnkfapghoaaDoor
open Go.RowKit Go.Maps

def putN (f : Int → Option Nat) (k : Int) (s : Nat) : Int → Option Nat := fun x => if x = k then some s else f x
theorem setF_put (f : Int → Option Nat) (k : Int) (s : Nat) : putM (setF f) k (.int .u64 (s : Nat)) = setF (putN f k s) := by
  funext x
  unfold putM setF putN
  split <;> rfl
theorem setF_get (f : Int → Option Nat) (k : Int) : (setF f k).getD (.int .u64 0) = .int .u64 (((f k).getD 0 : Nat)) := by
  unfold setF
  cases f k <;> rfl
/-- The first j of transaction i's writes, entered. -/
def wTo (i : Nat) (ys : List Opn) (f : Int → Option Nat) : Nat → Int → Option Nat
  | 0 => f
  | j + 1 => putN (wTo i ys f j) (ys.getD j opZero).key (withS ((wTo i ys f j (ys.getD j opZero).key).getD 0) (i : Int))
def wOf (hs : List Txr) (i : Nat) : List Opn := writesR (hs.getD i txrZero).ops 64
def wF (hs : List Txr) : Nat → Int → Option Nat
  | 0 => fun _ => none
  | i + 1 => wTo i (wOf hs i) (wF hs i) (wOf hs i).length
def SetsOK (f : Int → Option Nat) : Prop := ∀ k, (f k).getD 0 < 18446744073709551616
theorem putN_ok {f : Int → Option Nat} (h : SetsOK f) (k : Int) (s : Nat) (hs : s < 18446744073709551616) : SetsOK (putN f k s) := fun x => by
  unfold putN
  split
  · exact hs
  · exact h x
theorem wTo_ok {i : Nat} {ys : List Opn} {f : Int → Option Nat} (h : SetsOK f) : ∀ j, SetsOK (wTo i ys f j)
  | 0 => h
  | j + 1 => putN_ok (wTo_ok h j) _ _ (withS_lt _ _ (wTo_ok h j _))
theorem wF_ok (hs : List Txr) : ∀ i, SetsOK (wF hs i)
  | 0 => fun k => (by decide : 0 < 18446744073709551616)
  | i + 1 => wTo_ok (wF_ok hs i) _
/-- The keys that each writes to, so far. -/
def kTo (hs : List Txr) (i j : Nat) : Nat → List Int := fun a => if a < i then (wOf hs a).map Opn.key else if a = i then ((wOf hs i).take j).map Opn.key else []
theorem kTo_zero (hs : List Txr) : kTo hs 0 0 = fun _ => [] := by
  funext a
  unfold kTo
  rw [if_neg (by omega)]
  split <;> rfl
theorem kTo_at (hs : List Txr) (i j : Nat) : kTo hs i j i = ((wOf hs i).take j).map Opn.key := by
  unfold kTo
  rw [if_neg (by omega), if_pos rfl]
theorem kTo_step (hs : List Txr) (i j : Nat) (hj : j < (wOf hs i).length) : (fun a => if a = i then kTo hs i j i ++ [((wOf hs i).getD j opZero).key] else kTo hs i j a) = kTo hs i (j + 1) := by
  funext a
  by_cases e : a = i
  · subst e
    rw [if_pos rfl, kTo_at, kTo_at]
    generalize wOf hs a = L at hj ⊢
    rw [List.take_add_one, List.map_append, List.getElem?_eq_getElem hj]
    rw [List.getD_eq_getElem?_getD, List.getElem?_eq_getElem hj]
    rfl
  · rw [if_neg e]
    unfold kTo
    by_cases e2 : a < i
    · rw [if_pos e2, if_pos e2]
    · rw [if_neg e2, if_neg e2, if_neg e, if_neg e]
theorem kTo_next (hs : List Txr) (i : Nat) : kTo hs i (wOf hs i).length = kTo hs (i + 1) 0 := by
  funext a
  unfold kTo
  by_cases e2 : a < i
  · rw [if_pos e2, if_pos (by omega)]
  · rw [if_neg e2]
    by_cases e : a = i
    · subst e
      rw [if_pos rfl, if_pos (by omega), List.take_length]
    · rw [if_neg e, if_neg (by omega)]
      split <;> rfl
theorem keys64_of {hs : List Txr} (h : mayH hs = true) {i : Nat} (hi : i < hs.length) : Keys64 (hs.getD i txrZero).ops := fun j hj => ⟨(may_ops h hi hj).1, (may_ops h hi hj).2.1⟩
end Go.Proofs.YtlhfpnkfapghoaaDoor
end

section
/- What a transaction reads of others, by the program: in plain words. No condition but each theorem's own. -/
set_option linter.unusedVariables false
set_option linter.unusedSimpArgs false
namespace Go.Proofs.YtlhfpnkfapghoaaDoor
open Go.RowKit Go.Maps

theorem leaf_of {P : Program} {c : Code} {Q : Exit → Act → World → Prop} {a : Act} {w : World} {A : Option Addr → Nat → World → Act} (R : Option Addr → Nat → World → Prop) (W : Option Addr → Nat → World → World) (main : (∀ p q r, R p q r → Q .normal (A p q r) (W p q r)) → c.wp P Q a w) (h : ∀ p q r, R p q r → Q .normal (A p q r) (W p q r)) : c.wp P Q a w := main h
theorem ownsRow_shape {w : World} {base e size n : Nat} {v : Value} {xs : List Value} (h : w.ownsRow base e size v n xs) : ∃ A c, v = .slice A n c := by
  rcases h.2 with ⟨hv, hn⟩ | ⟨g, cap, cur, hv, _⟩
  · exact ⟨none, 0, by rw [hv, hn]⟩
  · exact ⟨_, _, hv⟩
def fromOf (M : WM) (x : Opn) : Int := if x.val = 0 then -1 else ((M x.val).getD wrZero).txn
def okOf (M : WM) (i : Nat) (x : Opn) : Bool := x.val == 0 || (((M x.val).getD wrZero).last && ((M x.val).getD wrZero).txn != (i : Int))
def rdTo (M : WM) (i : Nat) (ys : List Opn) : Nat → List (Int × Int)
  | 0 => []
  | j + 1 => rdTo M i ys j ++ if fromOf M (ys.getD j opZero) = (i : Int) then [] else [((ys.getD j opZero).key, fromOf M (ys.getD j opZero))]
def frTo (M : WM) (i : Nat) (ys : List Opn) (F : Nat → Nat) : Nat → Nat → Nat
  | 0 => F
  | j + 1 => if fromOf M (ys.getD j opZero) = (i : Int) then frTo M i ys F j else addR (frTo M i ys F j) (fromOf M (ys.getD j opZero)) (i : Int)
def sdTo (M : WM) (i : Nat) (ys : List Opn) (b : Bool) : Nat → Bool
  | 0 => b
  | j + 1 => sdTo M i ys b j && okOf M i (ys.getD j opZero)
theorem frTo_ok {M : WM} {i : Nat} {ys : List Opn} {F : Nat → Nat} (h : RelOK F) : ∀ j, RelOK (frTo M i ys F j)
  | 0 => h
  | j + 1 => by
    unfold frTo
    split
    · exact frTo_ok h j
    · exact addR_ok (frTo_ok h j) _ _
theorem rdTo_len (M : WM) (i : Nat) (ys : List Opn) : ∀ j, (rdTo M i ys j).length ≤ j
  | 0 => Nat.le_refl _
  | j + 1 => by
    have := rdTo_len M i ys j
    unfold rdTo
    rw [List.length_append]
    split <;> simp <;> omega
theorem rdTo_skip {M : WM} {i j : Nat} {ys : List Opn} {x : Opn} (hx : ys.getD j opZero = x) (h : fromOf M x = (i : Int)) : rdTo M i ys j = rdTo M i ys (j + 1) := by
  show _ = rdTo M i ys j ++ _
  rw [hx, if_pos h, List.append_nil]
theorem rdTo_step {M : WM} {i j : Nat} {ys : List Opn} {x : Opn} (hx : ys.getD j opZero = x) (h : fromOf M x ≠ (i : Int)) : rdTo M i ys j ++ [(x.key, fromOf M x)] = rdTo M i ys (j + 1) := by
  show _ = rdTo M i ys j ++ _
  rw [hx, if_neg h]
theorem frTo_skip {M : WM} {i j : Nat} {ys : List Opn} {F : Nat → Nat} {x : Opn} (hx : ys.getD j opZero = x) (h : fromOf M x = (i : Int)) : frTo M i ys F j = frTo M i ys F (j + 1) := by
  show _ = if _ then _ else _
  rw [hx, if_pos h]
theorem frTo_step {M : WM} {i j : Nat} {ys : List Opn} {F : Nat → Nat} {x : Opn} (hx : ys.getD j opZero = x) (h : fromOf M x ≠ (i : Int)) : addR (frTo M i ys F j) (fromOf M x) (i : Int) = frTo M i ys F (j + 1) := by
  show _ = if _ then _ else _
  rw [hx, if_neg h]
theorem sdTo_step {M : WM} {i j : Nat} {ys : List Opn} {b : Bool} {x : Opn} (hx : ys.getD j opZero = x) : sdTo M i ys b (j + 1) = (sdTo M i ys b j && okOf M i x) := by
  show (sdTo M i ys b j && okOf M i (ys.getD j opZero)) = _
  rw [hx]
/-- What stands at row i grows by l. -/
def addAt {α : Type} (rs : Nat → List α) (i : Nat) (l : List α) : Nat → List α := fun a => if a = i then rs i ++ l else rs a
theorem addAt_nil {α : Type} (rs : Nat → List α) (i : Nat) : addAt rs i [] = rs := by
  funext a
  unfold addAt
  by_cases e : a = i
  · subst e; rw [if_pos rfl, List.append_nil]
  · rw [if_neg e]
theorem addAt_step {α : Type} (rs : Nat → List α) (i : Nat) (l : List α) (x : α) : (fun a => if a = i then addAt rs i l i ++ [x] else addAt rs i l a) = addAt rs i (l ++ [x]) := by
  funext a
  unfold addAt
  by_cases e : a = i
  · subst e; rw [if_pos rfl, if_pos rfl, if_pos rfl, List.append_assoc]
  · rw [if_neg e, if_neg e, if_neg e]
end Go.Proofs.YtlhfpnkfapghoaaDoor
end

section
/- What follows of a history, in plain words: what each reads, who writes, what is handed back. No condition but each theorem's own. -/
set_option linter.unusedVariables false
set_option linter.unusedSimpArgs false
namespace Go.Proofs.YtlhfpnkfapghoaaDoor
open Go.RowKit Go.Maps

/-- What each reads of others. -/
def rOf (hs : List Txr) (i : Nat) : List Opn := readsR (hs.getD i txrZero).ops 64
def frAll (M : WM) (hs : List Txr) : Nat → Nat → Nat
  | 0 => fun _ => 0
  | i + 1 => frTo M i (rOf hs i) (frAll M hs i) (rOf hs i).length
def rsAll (M : WM) (hs : List Txr) (i : Nat) : Nat → List (Int × Int) := fun a => if a < i then rdTo M a (rOf hs a) (rOf hs a).length else []
def sdAll (M : WM) (hs : List Txr) : Nat → Bool
  | 0 => true
  | i + 1 => sdTo M i (rOf hs i) (steadyB (hs.getD i txrZero).ops) (rOf hs i).length && sdAll M hs i
theorem frAll_ok (M : WM) (hs : List Txr) : ∀ i, RelOK (frAll M hs i)
  | 0 => fun _ => (by decide : 0 < 18446744073709551616)
  | i + 1 => frTo_ok (frAll_ok M hs i) _
theorem rsAll_next (M : WM) (hs : List Txr) (i : Nat) : addAt (rsAll M hs i) i (rdTo M i (rOf hs i) (rOf hs i).length) = rsAll M hs (i + 1) := by
  funext a
  unfold addAt rsAll
  by_cases e : a = i
  · subst e
    rw [if_pos rfl, if_neg (by omega), if_pos (by omega), List.nil_append]
  · rw [if_neg e]
    by_cases e2 : a < i
    · rw [if_pos e2, if_pos (by omega)]
    · rw [if_neg e2, if_neg (by omega)]
/-- What Of hands back for a history that may be. -/
def OfPost (w : World) (hs : List Txr) (e : Ending) (w' : World) : Prop :=
  ∃ (base go gm c : Nat) (A1 : Option Addr) (c1 : Nat) (A2 : Option Addr) (c2 : Nat) (KV RV : Nat → Value) (M : WM), e = .returned (.tuple #[.pointer (some ⟨go, 0, none⟩), .int .i64 0]) ∧ histF hs hs.length = some M ∧
    Ords w' base go gm c hs.length (pairsR (sesB hs) hs.length) (pairsR (timeB hs) hs.length) (frAll M hs hs.length) (wF hs hs.length) A1 c1 A2 c2 KV RV (kTo hs hs.length 0) (rsAll M hs hs.length) (sdAll M hs hs.length) ∧ w.heap.size ≤ base ∧ Ch nob w w'
theorem under_mset : Tryd.prog.underlying 107 = some (.map 3 38) := by kernel_rfl
theorem zero_set (w : World) : (zeroValue 38).run Tryd.prog w = .ok (.int .u64 0) w := by kernel_rfl
end Go.Proofs.YtlhfpnkfapghoaaDoor
end

section
/- What follows of a history that may not be: nothing, and the error's number; a read as the law makes it. No condition but each theorem's own. -/
set_option linter.unusedVariables false
set_option linter.unusedSimpArgs false
namespace Go.Proofs.YtlhfpnkfapghoaaDoor
open Go.RowKit Go.Maps

set_option maxRecDepth 20000 in
set_option maxHeartbeats 1000000 in
theorem op_read (k v : Int) (w : World) : Calls Tryd.prog 85 #[.int .i64 k, .int .i64 v] w fun e w' => e = .returned (.agg #[.bool false, .int .i64 k, .int .i64 v]) ∧ Ch nob w w' := by
  have hc0 : Ch nob w (w.alloc (.cells #[.bool false, .int .i64 k, .int .i64 v] 121)) := (Ch.refl _ _).alloc _
  go_enter Tryd.func85, Tryd.ntmps85
  go_wp2_with fail
  exact bodyPost_ret (results_cell_row rfl _ _ w.heap.size 121 #[.bool false, .int .i64 k, .int .i64 v] (0, 0) _ rfl (Blk.new _ _ _) rfl rfl (by kernel_rfl)) rfl ⟨rfl, hc0⟩
set_option maxRecDepth 100000 in
set_option maxHeartbeats 2000000 in
theorem of_none (w : World) (v : Value) (hs : List Txr) (z : Int) (hv : Txns w v hs) (hk : TxnsOk hs) (hn : countTo hs hs.length ≤ 1000000) (hz : docH hs = z) (hne : (z != 0) = true) : Calls Tryd.prog 17 #[v] w fun e w' => e = .returned (.tuple #[.pointer none, .int .i64 z]) ∧ Ch nob w w' := by
  obtain ⟨A, cp, rfl⟩ := hv.shape
  have hcA : Ch nob w (w.alloc (.cells #[.slice A hs.length cp] 22)) := (Ch.refl _ _).alloc _
  have HC := check_history (w.alloc (.cells #[.slice A hs.length cp] 22)) (.slice A hs.length cp) hs (hv.keep hcA) hk hn
  rw [check_is, hz] at HC
  obtain ⟨n, hn2⟩ : ∃ n, hs.length = n := ⟨_, rfl⟩
  rw [hn2] at HC hcA ⊢
  have HC2 := Lib.hid HC
  clear hv hk hn hz HC hn2
  go_enter Tryd.func17, Tryd.ntmps17
  go_wp2_with fail
  refine HC2.out.mono ?_
  rintro e w1 ⟨rfl, hc1⟩
  have hc2 := hcA.seq hc1
  clear HC2 hcA hc1
  go_wp2_with fail
  go_ret2
  exact ⟨rfl, hc2⟩
end Go.Proofs.YtlhfpnkfapghoaaDoor
end

section
/- Who comes ahead of whom, by the document (burgageref08.Session, Time). No condition but each theorem's own. -/
set_option linter.unusedVariables false
set_option linter.unusedSimpArgs false
namespace Go.Proofs.YtlhfpnkfapghoaaDoor
open Go.RowKit Go.Maps

set_option maxHeartbeats 2000000 in
theorem session_ref08 (w : World) (v : Value) (hs : List Txr) (i k : Nat) (hv : Txns w v hs) (hi : i < hs.length) (hk : k < hs.length) : Calls Tryd.prog 29 #[v, .int .i64 i, .int .i64 k] w fun e w' => e = .returned (.bool (sesB hs i k)) ∧ Ch nob w w' := by
  obtain ⟨A, cp, rfl⟩ := hv.shape
  have HV := Lib.hid hv
  have HI := Lib.hid hi
  have HK := Lib.hid hk
  obtain ⟨n, hn2⟩ : ∃ n, hs.length = n := ⟨_, rfl⟩
  have HN := Lib.hid hn2
  rw [hn2] at hi hk HV ⊢
  obtain ⟨ad, u1, rfl, hx0, _⟩ := HV.out.at.2.2 i HI.out
  obtain ⟨ad2, u2, hA, hy0, _⟩ := HV.out.at.2.2 k HK.out
  obtain rfl := Option.some.inj hA
  have HB := Lib.hid (show sesB hs i k = (decide (i < k) && (hs.getD i txrZero).ses == (hs.getD k txrZero).ses) from rfl)
  obtain ⟨a, ha⟩ : ∃ a, (hs.getD i txrZero).ses = a := ⟨_, rfl⟩
  obtain ⟨b, hb⟩ : ∃ b, (hs.getD k txrZero).ses = b := ⟨_, rfl⟩
  rw [ha] at hx0 HB
  rw [hb] at hy0 HB
  have X1 := fun u : Ext _ => Ext.cell hx0 u
  have X2 := fun u : Ext _ => Ext.cell hy0 u
  clear hv hn2 hA ha hb
  by_cases hlt : i < k
  · have hd : decide ((i : Int) < (k : Int)) = true := decide_eq_true (by omega)
    have HB2 := Lib.hid (show sesB hs i k = (a == b) from by rw [HB.out, decide_eq_true hlt, Bool.true_and])
    go_enter Tryd.func29, Tryd.ntmps29
    go_wp2_with fail
    refine wp_region_ch (w0 := _) (by kernel_rfl) (by kernel_rfl) (Ch.refl _ _) ?_
    repeat go_big_quiet_step (fail)
    refine wpQuiet_nil ?_
    rintro wq ⟨⟨_, hcq⟩, rfl⟩
    go_wp2_with fail
    go_ret
    exact ⟨ret_bool HB2.out.symm, hcq⟩
  · have hd : decide ((i : Int) < (k : Int)) = false := decide_eq_false (by omega)
    have HB2 := Lib.hid (show sesB hs i k = false from by rw [HB.out, decide_eq_false hlt, Bool.false_and])
    go_enter Tryd.func29, Tryd.ntmps29
    go_wp2_with fail
    refine wp_region_ch (w0 := _) (by kernel_rfl) (by kernel_rfl) (Ch.refl _ _) ?_
    repeat go_big_quiet_step (fail)
    refine wpQuiet_nil ?_
    rintro wq ⟨⟨_, hcq⟩, rfl⟩
    go_wp2_with fail
    go_ret
    exact ⟨ret_bool HB2.out.symm, hcq⟩
set_option maxHeartbeats 2000000 in
theorem time_ref08 (w : World) (v : Value) (hs : List Txr) (i k : Nat) (hv : Txns w v hs) (hi : i < hs.length) (hk : k < hs.length) : Calls Tryd.prog 30 #[v, .int .i64 i, .int .i64 k] w fun e w' => e = .returned (.bool (timeB hs i k)) ∧ Ch nob w w' := by
  obtain ⟨A, cp, rfl⟩ := hv.shape
  have HV := Lib.hid hv
  have HI := Lib.hid hi
  have HK := Lib.hid hk
  obtain ⟨n, hn2⟩ : ∃ n, hs.length = n := ⟨_, rfl⟩
  have HN := Lib.hid hn2
  rw [hn2] at hi hk HV ⊢
  obtain ⟨ad, u1, rfl, _, _, hx2, _⟩ := HV.out.at.2.2 i HI.out
  obtain ⟨ad2, u2, hA, _, hy1, _⟩ := HV.out.at.2.2 k HK.out
  obtain rfl := Option.some.inj hA
  have HB := Lib.hid (show timeB hs i k = decide ((hs.getD i txrZero).com < (hs.getD k txrZero).beg) from rfl)
  obtain ⟨a, ha⟩ : ∃ a, (hs.getD i txrZero).com = a := ⟨_, rfl⟩
  obtain ⟨b, hb⟩ : ∃ b, (hs.getD k txrZero).beg = b := ⟨_, rfl⟩
  rw [ha] at hx2 HB
  rw [hb] at hy1 HB
  have X1 := fun u : Ext _ => Ext.cell hx2 u
  have X2 := fun u : Ext _ => Ext.cell hy1 u
  clear hv hn2 hA ha hb
  go_enter Tryd.func30, Tryd.ntmps30
  go_wp2_with fail
  refine wp_region_ch (w0 := _) (by kernel_rfl) (by kernel_rfl) (Ch.refl _ _) ?_
  repeat go_big_quiet_step (fail)
  refine wpQuiet_nil ?_
  rintro wq ⟨⟨_, hcq⟩, rfl⟩
  go_wp2_with fail
  go_ret
  exact ⟨ret_bool HB.out.symm, hcq⟩

end Go.Proofs.YtlhfpnkfapghoaaDoor
end

section
/- Does a transaction write to a key, by the document (burgageref08.Writes)? No condition but each theorem's own. -/
set_option linter.unusedVariables false
set_option linter.unusedSimpArgs false
namespace Go.Proofs.YtlhfpnkfapghoaaDoor
open Go.RowKit Go.Maps

set_option maxRecDepth 100000 in
set_option maxHeartbeats 2000000 in
theorem writes_ref08 (w : World) (v : Value) (hs : List Txr) (i : Nat) (k z : Int) (hv : Txns w v hs) (hi : i < hs.length) (hl : (hs.getD i txrZero).ops.length ≤ 10000) (hz : valR (hs.getD i txrZero).ops k = z) :
    Calls Tryd.prog 96 #[v, .int .i64 i, .int .i64 k] w fun e w' => e = .returned (.bool (z != 0)) ∧ Ch nob w w' := by
  obtain ⟨A, cp, rfl⟩ := hv.shape
  obtain ⟨ad, u, rfl, hx0, hx1, hx2, hx3, hu⟩ := hv.at.2.2 i hi
  have HC := value_ref05 w u _ k hu hl
  rw [hz] at HC
  have HC2 := Lib.hid HC
  obtain ⟨n, hn2⟩ : ∃ n, hs.length = n := ⟨_, rfl⟩
  rw [hn2] at hi ⊢
  clear hv hl hz hu HC hx0 hx1 hx2 hn2
  go_enter Tryd.func96, Tryd.ntmps96
  go_wp2_with fail
  refine HC2.out.mono ?_
  rintro e w1 ⟨rfl, hc1⟩
  clear HC2
  go_wp2_with fail
  go_ret
  exact ⟨rfl, hc1⟩
end Go.Proofs.YtlhfpnkfapghoaaDoor
end

section
/- Do two transactions write to one key, by the document (burgageref08.Rivals)? No condition but each theorem's own. -/
set_option linter.unusedVariables false
set_option linter.unusedSimpArgs false
namespace Go.Proofs.YtlhfpnkfapghoaaDoor
open Go.RowKit Go.Maps

def wkB (hs : List Txr) (i : Nat) (k : Int) : Bool := valR (hs.getD i txrZero).ops k != 0
def rivB (hs : List Txr) (i k : Nat) : Bool := i != k && (List.range 64).any fun q => wkB hs i (q : Int) && wkB hs k (q : Int)
theorem rivB_yes {hs : List Txr} {i k q : Nat} (h : i ≠ k) (hq : q < 64) (h1 : wkB hs i (q : Int) = true) (h2 : wkB hs k (q : Int) = true) : rivB hs i k = true := by
  unfold rivB
  rw [any_yes (p := fun q : Nat => wkB hs i (q : Int) && wkB hs k (q : Int)) hq (by rw [h1, h2]; rfl)]
  simp [h]
theorem rivB_no {hs : List Txr} {i k : Nat} (h : ∀ q : Nat, q < 64 → (wkB hs i (q : Int) && wkB hs k (q : Int)) = false) : rivB hs i k = false := by
  unfold rivB
  rw [any_no h, Bool.and_false]
theorem rivB_self (hs : List Txr) (i : Nat) : rivB hs i i = false := by unfold rivB; simp
set_option maxRecDepth 100000 in
set_option maxHeartbeats 4000000 in
theorem rivals_ref08 (w : World) (v : Value) (hs : List Txr) (i k : Nat) (hv : Txns w v hs) (hi : i < hs.length) (hk : k < hs.length) (hl : ∀ a, a < hs.length → (hs.getD a txrZero).ops.length ≤ 10000) :
    Calls Tryd.prog 124 #[v, .int .i64 i, .int .i64 k] w fun e w' => e = .returned (.bool (rivB hs i k)) ∧ Ch nob w w' := by
  obtain ⟨A, cp, rfl⟩ := hv.shape
  have HWI := Lib.hid (fun (wr : World) (q z : Int) (hc : Ch nob w wr) (hz : valR (hs.getD i txrZero).ops q = z) => writes_ref08 wr (.slice A hs.length cp) hs i q z (hv.keep hc) hi (hl i hi) hz)
  have HWK := Lib.hid (fun (wr : World) (q z : Int) (hc : Ch nob w wr) (hz : valR (hs.getD k txrZero).ops q = z) => writes_ref08 wr (.slice A hs.length cp) hs k q z (hv.keep hc) hk (hl k hk) hz)
  obtain ⟨n, hn2⟩ : ∃ n, hs.length = n := ⟨_, rfl⟩
  rw [hn2] at HWI HWK ⊢
  clear hv hi hk hl hn2
  by_cases hik : i = k
  · have hd : ((i : Int) == (k : Int)) = true := by rw [beq_iff_eq]; omega
    have HF := Lib.hid (show rivB hs i k = false from by rw [hik]; exact rivB_self hs k)
    go_enter Tryd.func124, Tryd.ntmps124
    go_wp2_with fail
    go_ret
    exact ⟨ret_bool HF.out.symm, Ch.refl _ _⟩
  · have hd : ((i : Int) == (k : Int)) = false := by rw [beq_eq_false_iff_ne]; omega
    go_enter Tryd.func124, Tryd.ntmps124
    go_wp2_with fail
    go_loopw [7] (fun x wr => ∃ q : Nat, x = .int .i64 q ∧ q ≤ 64 ∧ Hid (∀ j : Nat, j < q → (wkB hs i (j : Int) && wkB hs k (j : Int)) = false) ∧ Ch nob w wr) (fun x _ => 64 - (intOf x).toNat)
    case atStart => exact ⟨0, rfl, Nat.zero_le _, Lib.hid (fun j hj => by omega), Ch.refl _ _⟩
    case round =>
      obtain ⟨q, rfl, hq, hst, hc⟩ := hrel
      by_cases hlt : q < 64
      · have hd2 : decide ((q : Int) < 64) = true := decide_eq_true (by omega)
        obtain ⟨z, hz⟩ : ∃ z, valR (hs.getD i txrZero).ops q = z := ⟨_, rfl⟩
        obtain ⟨z2, hz2⟩ : ∃ z, valR (hs.getD k txrZero).ops q = z := ⟨_, rfl⟩
        have HZ := Lib.hid hz
        have HZ2 := Lib.hid hz2
        have HA := Lib.hid (show wkB hs i (q : Int) = (z != 0) from by rw [← hz]; rfl)
        have HB := Lib.hid (show wkB hs k (q : Int) = (z2 != 0) from by rw [← hz2]; rfl)
        have hno : (wkB hs i (q : Int) && wkB hs k (q : Int)) = false → Hid (∀ j : Nat, j < q + 1 → (wkB hs i (j : Int) && wkB hs k (j : Int)) = false) := fun h => Lib.hid (fun j hj => by
          by_cases e : j = q
          · rw [e]; exact h
          · exact hst.out j (by omega))
        have HNO := Lib.hid hno
        clear hz hz2 hno
        go_wp2_with fail
        refine (HWI.out wr q z hc HZ.out).mono ?_
        rintro e w1 ⟨rfl, hc1⟩
        have hc2 := hc.seq hc1
        clear hc1 hc
        cases h1 : (z != 0) with
        | false =>
          have HT := HNO.out (by rw [HA.out, h1]; rfl)
          go_wp2_with fail
          go_roundw
          case rel => exact ⟨q + 1, by go_num, by omega, HT, hc2⟩
          case measure => simp [intOf]; omega
        | true =>
          go_wp2_with fail
          refine (HWK.out w1 q z2 hc2 HZ2.out).mono ?_
          rintro e w2 ⟨rfl, hc3⟩
          have hc4 := hc2.seq hc3
          clear hc2 hc3
          cases h2 : (z2 != 0) with
          | false =>
            have HT := HNO.out (by rw [HB.out, h2, Bool.and_false])
            go_wp2_with fail
            go_roundw
            case rel => exact ⟨q + 1, by go_num, by omega, HT, hc4⟩
            case measure => simp [intOf]; omega
          | true =>
            have HF := Lib.hid (rivB_yes hik hlt (by rw [HA.out]; exact h1) (by rw [HB.out]; exact h2))
            go_wp2_with fail
            go_ret
            exact ⟨ret_bool HF.out.symm, hc4⟩
      · have hd2 : decide ((q : Int) < 64) = false := decide_eq_false (by omega)
        obtain rfl : q = 64 := by omega
        have HF := Lib.hid (rivB_no hst.out)
        go_wp2_with fail
        go_ret
        exact ⟨ret_bool HF.out.symm, hc⟩
end Go.Proofs.YtlhfpnkfapghoaaDoor
end

section
/- What follows of a history, by the program and by the document: in plain words. No condition but each theorem's own. -/
set_option linter.unusedVariables false
set_option linter.unusedSimpArgs false
namespace Go.Proofs.YtlhfpnkfapghoaaDoor
open Go.RowKit Go.Maps

theorem cell_keep {w w' : World} {a : Addr} {v : Value} (h : w.cell? a = some v) (hc : Ch nob w w') : w'.cell? a = some v := Ext.cell h ⟨w', hc⟩
theorem getD_mem {l : List Opn} {j : Nat} (h : j < l.length) : l.getD j opZero ∈ l := by
  rw [List.getD_eq_getElem?_getD, List.getElem?_eq_getElem h]; exact List.getElem_mem h
theorem mem_getD {l : List Opn} {x : Opn} (h : x ∈ l) : ∃ j, j < l.length ∧ l.getD j opZero = x := by
  obtain ⟨j, hj, e⟩ := List.getElem_of_mem h
  exact ⟨j, hj, by rw [List.getD_eq_getElem?_getD, List.getElem?_eq_getElem hj, Option.getD_some, e]⟩
/-- Of a read of a history that may be: who wrote what it reads. -/
theorem read_by {hs : List Txr} {M : WM} (hm : mayH hs = true) (h : histF hs hs.length = some M) {i : Nat} (hi : i < hs.length) {x : Opn} (hx : x ∈ rOf hs i) :
    x.val = 0 ∨ ∃ f : Nat, f < hs.length ∧ M x.val = some ⟨(f : Int), x.key, valR (hs.getD f txrZero).ops x.key == x.val⟩ ∧ ∀ z, IsWriter hs x.key x.val z → z = (f : Int) := by
  unfold rOf at hx
  obtain ⟨hk, hx2⟩ := (mem_readsR _ _ _).1 hx
  obtain ⟨j, hj, hr, hjx⟩ := (mem_readsTo _ _ _).1 hx2
  have hw : x.wr = false := by
    unfold readAt at hr
    rw [hjx, Bool.and_eq_true] at hr
    simpa using hr.2
  have hf := ((may_iff hs).1 hm).2.2 i hi j hj
  rw [hjx] at hf
  unfold opFine at hf
  rw [hw] at hf
  by_cases h0 : x.val = 0
  · exact .inl h0
  · right
    have hh : hasWB hs x.key x.val = true := by simpa [h0] using hf
    unfold hasWB at hh
    rw [List.any_eq_true] at hh
    obtain ⟨f, hf1, hf2⟩ := hh
    have hf1 := List.mem_range.1 hf1
    obtain ⟨q, hq1, hq2⟩ := wroteB_ex hf2
    obtain ⟨y, hy⟩ : ∃ y, (hs.getD f txrZero).ops.getD q opZero = y := ⟨_, rfl⟩
    rw [hy] at hq2
    have h3 := isWK_isW hq2
    have h4 : y.wr = true ∧ y.val = x.val := by have := h3.1; unfold isW at this; simpa using this
    have hM := write_is hm h hf1 rfl hq1 hy h4.1
    rw [h4.2, h3.2] at hM
    refine ⟨f, hf1, hM, fun z hz => ?_⟩
    rcases hz with ⟨t, ht, rfl, ht2, _⟩ | ⟨rfl, hno⟩
    · rw [(one_key h ht hf1 ht2 hf2).1]
    · rw [hno f hf1] at hf2; cases hf2
theorem from_is {hs : List Txr} {M : WM} (hm : mayH hs = true) (h : histF hs hs.length = some M) {i : Nat} (hi : i < hs.length) {x : Opn} (hx : x ∈ rOf hs i) (h0 : x.val ≠ 0) {z : Int} (hz : IsWriter hs x.key x.val z) : fromOf M x = z := by
  rcases read_by hm h hi hx with h1 | ⟨f, _, h2, h3⟩
  · exact absurd h1 h0
  · unfold fromOf
    rw [if_neg h0, h2, h3 z hz]
    rfl
/-- What is read of others is right: by the document. -/
theorem ok_is {hs : List Txr} {M : WM} (hm : mayH hs = true) (h : histF hs hs.length = some M) {i : Nat} (hi : i < hs.length) {x : Opn} (hx : x ∈ rOf hs i) (h0 : x.val ≠ 0) {z : Int} (hz : IsWriter hs x.key x.val z) :
    ∃ f : Nat, f < hs.length ∧ z = f ∧ okOf M i x = (valR (hs.getD f txrZero).ops x.key == x.val && (z != (i : Int))) := by
  rcases read_by hm h hi hx with h1 | ⟨f, hf, h2, h3⟩
  · exact absurd h1 h0
  · refine ⟨f, hf, h3 z hz, ?_⟩
    unfold okOf
    rw [h2, h3 z hz]
    simp [h0]
theorem ok_zero {M : WM} {i : Nat} {x : Opn} (h0 : x.val = 0) : okOf M i x = true := by unfold okOf; rw [h0]; rfl
theorem sdTo_all (M : WM) (i : Nat) (ys : List Opn) (b : Bool) : ∀ j, j ≤ ys.length → sdTo M i ys b j = (b && (ys.take j).all (okOf M i))
  | 0, _ => by simp [sdTo]
  | j + 1, hj => by
    unfold sdTo
    rw [sdTo_all M i ys b j (by omega), List.take_add_one, List.all_append, List.getElem?_eq_getElem (by omega), List.getD_eq_getElem?_getD, List.getElem?_eq_getElem (by omega)]
    simp [Bool.and_assoc]
def soundAt (M : WM) (hs : List Txr) (i : Nat) : Bool := steadyB (hs.getD i txrZero).ops && (rOf hs i).all (okOf M i)
theorem sdAll_all (M : WM) (hs : List Txr) : ∀ n, sdAll M hs n = (List.range n).all (soundAt M hs)
  | 0 => rfl
  | n + 1 => by
    unfold sdAll
    rw [sdAll_all M hs n, sdTo_all _ _ _ _ _ (Nat.le_refl _), List.take_length, List.range_succ, List.all_append, Bool.and_comm]
    simp [soundAt]
/-! ### Who reads of whom -/
theorem addR_bitB (r : Nat → Nat) (a b : Int) (c d : Nat) (hc : c < 64) (hd : d < 64) : hasR (addR r a b) (c : Int) (d : Int) = (hasR r (c : Int) (d : Int) || (a == (c : Int) && b == (d : Int))) := by
  have ic : inS (c : Int) = true := by unfold inS; exact decide_eq_true (by omega)
  have id' : inS (d : Int) = true := by unfold inS; exact decide_eq_true (by omega)
  unfold addR
  split
  · rename_i h
    rw [Bool.and_eq_true] at h
    have ha : 0 ≤ a ∧ a < 64 := by have := h.1; unfold inS at this; simpa using this
    have hb : 0 ≤ b ∧ b < 64 := by have := h.2; unfold inS at this; simpa using this
    unfold hasR hasS rowSet
    rw [ic, id', Bool.true_and, Bool.true_and, Bool.true_and, Bool.true_and, Int.toNat_natCast, Int.toNat_natCast]
    by_cases e : c = a.toNat
    · rw [if_pos e]
      unfold withS
      rw [h.2, if_pos rfl, Bits.testBit_put, e]
      have e2 : (a == (a.toNat : Int)) = true := by rw [beq_iff_eq]; omega
      have e3 : decide (b.toNat = d) = (b == (d : Int)) := by rw [Bool.eq_iff_iff, decide_eq_true_iff, beq_iff_eq]; omega
      rw [e2, e3, Bool.true_and]
    · rw [if_neg e]
      have e2 : (a == (c : Int)) = false := by rw [beq_eq_false_iff_ne]; omega
      rw [e2, Bool.false_and, Bool.or_false]
  · rename_i h
    have : (a == (c : Int) && b == (d : Int)) = false := by
      rw [Bool.and_eq_false_iff]
      by_cases e : a = (c : Int)
      · right
        rw [beq_eq_false_iff_ne]
        intro e2
        exact h (by rw [e, e2, ic, id']; rfl)
      · left; rw [beq_eq_false_iff_ne]; exact e
    rw [this, Bool.or_false]
theorem frTo_bit (M : WM) (i : Nat) (ys : List Opn) (F : Nat → Nat) (a k : Nat) (ha : a < 64) (hk : k < 64) : ∀ j, hasR (frTo M i ys F j) (a : Int) (k : Int) = (hasR F (a : Int) (k : Int) || (decide (i = k) && (rdTo M i ys j).any fun p => p.2 == (a : Int)))
  | 0 => by simp [frTo, rdTo]
  | j + 1 => by
    have ih := frTo_bit M i ys F a k ha hk j
    unfold frTo rdTo
    by_cases e : fromOf M (ys.getD j opZero) = (i : Int)
    · rw [if_pos e, if_pos e, ih, List.append_nil]
    · rw [if_neg e, if_neg e, addR_bitB _ _ _ _ _ ha hk, ih, List.any_append]
      have e3 : ((i : Int) == (k : Int)) = decide (i = k) := by rw [Bool.eq_iff_iff, decide_eq_true_iff, beq_iff_eq]; omega
      rw [e3]
      simp only [List.any_cons, List.any_nil, Bool.or_false]
      cases decide (i = k) <;> simp [Bool.or_assoc]
/-- What transaction k reads of others, whole. -/
def rdOf (M : WM) (hs : List Txr) (k : Nat) : List (Int × Int) := rdTo M k (rOf hs k) (rOf hs k).length
def fromB (M : WM) (hs : List Txr) (i k : Nat) : Bool := (rdOf M hs k).any fun p => p.2 == (i : Int)
theorem frAll_bit (M : WM) (hs : List Txr) (a k : Nat) (ha : a < 64) (hk : k < 64) : ∀ n, hasR (frAll M hs n) (a : Int) (k : Int) = (decide (k < n) && fromB M hs a k)
  | 0 => by
    show hasR (fun _ => 0) _ _ = _
    unfold hasR hasS
    simp
  | n + 1 => by
    unfold frAll
    rw [frTo_bit _ _ _ _ _ _ ha hk, frAll_bit M hs a k ha hk n]
    by_cases e : n = k
    · subst e
      rw [decide_eq_false (show ¬ n < n by omega), decide_eq_true rfl, decide_eq_true (show n < n + 1 by omega), Bool.false_and, Bool.false_or, Bool.true_and, Bool.true_and]
      rfl
    · rw [decide_eq_false e, Bool.false_and, Bool.or_false]
      by_cases e2 : k < n
      · rw [decide_eq_true e2, decide_eq_true (show k < n + 1 by omega)]
      · rw [decide_eq_false e2, decide_eq_false (show ¬ k < n + 1 by omega)]
theorem rsAll_at (M : WM) (hs : List Txr) (n i : Nat) (h : i < n) : rsAll M hs n i = rdOf M hs i := by unfold rsAll; rw [if_pos h]; rfl
/-- None reads of itself. -/
theorem rdTo_other (M : WM) (i : Nat) (ys : List Opn) : ∀ j, ∀ p ∈ rdTo M i ys j, p.2 ≠ (i : Int)
  | 0, p, h => by cases h
  | j + 1, p, h => by
    unfold rdTo at h
    rcases List.mem_append.1 h with h | h
    · exact rdTo_other M i ys j p h
    · split at h
      · cases h
      · rename_i hn
        rw [List.mem_singleton] at h
        rw [h]; exact hn
theorem fromB_self (M : WM) (hs : List Txr) (i : Nat) : fromB M hs i i = false := by
  unfold fromB
  rw [List.any_eq_false]
  intro p hp
  simp [rdTo_other M i _ _ p hp]
/-! ### Who writes to the same key -/
theorem wOf_mem {hs : List Txr} {i : Nat} {x : Opn} (h : x ∈ wOf hs i) : (0 ≤ x.key ∧ x.key < 64) ∧ x.wr = true ∧ ∃ j, j < (hs.getD i txrZero).ops.length ∧ (hs.getD i txrZero).ops.getD j opZero = x := by
  unfold wOf at h
  obtain ⟨h1, h2⟩ := (mem_writesR _ _ _).1 h
  have h3 := lastW_mem (Nat.le_refl _) h2
  exact ⟨h1, h3.2.1, lastW_in h2⟩
theorem wr_pos {hs : List Txr} (hm : mayH hs = true) {i : Nat} (hi : i < hs.length) {x : Opn} (h : x ∈ wOf hs i) : 0 < x.val := by
  obtain ⟨_, hw, j, hj, hx⟩ := wOf_mem h
  have h1 := all_iff.1 ((may_iff hs).1 hm).1 i hi
  unfold txrOkB txnOk at h1
  rw [Bool.and_eq_true] at h1
  have h2 := may_at h1.2 hj
  rw [hx] at h2
  unfold opOk at h2
  rw [hw] at h2
  simp only [Bool.and_eq_true, decide_eq_true_eq, Bool.not_true, Bool.false_or] at h2
  exact h2.2
theorem firstVal_no : ∀ {l : List Opn} {k : Int}, (∀ x ∈ l, x.key ≠ k) → firstVal l k = 0
  | [], _, _ => rfl
  | x :: l, k, h => by
    unfold firstVal
    rw [if_neg (h x (List.mem_cons_self ..))]
    exact firstVal_no fun y hy => h y (List.mem_cons_of_mem _ hy)
theorem wkB_iff {hs : List Txr} (hm : mayH hs = true) {i : Nat} (hi : i < hs.length) (k : Int) : wkB hs i k = (wOf hs i).any fun x => x.key == k := by
  unfold wkB valR
  rw [show writesR (hs.getD i txrZero).ops 64 = wOf hs i from rfl, Bool.eq_iff_iff, List.any_eq_true]
  constructor
  · intro h
    by_cases e : ∃ x, x ∈ wOf hs i ∧ x.key = k
    · obtain ⟨x, h1, h2⟩ := e
      exact ⟨x, h1, by rw [beq_iff_eq]; exact h2⟩
    · rw [firstVal_no fun x hx hk => e ⟨x, hx, hk⟩] at h
      cases h
  · rintro ⟨x, h1, h2⟩
    rw [beq_iff_eq] at h2
    have h3 := firstVal_mem (writesR_rise _ 64) h1
    have h4 := wr_pos hm hi h1
    rw [h2] at h3
    rw [show writesR (hs.getD i txrZero).ops 64 = wOf hs i from rfl] at h3
    rw [h3]
    simp
    omega
theorem wTo_bit (i : Nat) (ys : List Opn) (f : Int → Option Nat) (k : Int) (a : Nat) (hi : i < 64) : ∀ j, j ≤ ys.length → ((wTo i ys f j k).getD 0).testBit a = (((f k).getD 0).testBit a || (decide (i = a) && (ys.take j).any fun x => x.key == k))
  | 0, _ => by simp [wTo]
  | j + 1, hj => by
    have ih := wTo_bit i ys f k a hi j (by omega)
    unfold wTo
    rw [List.take_add_one, List.any_append, List.getElem?_eq_getElem (by omega), List.getD_eq_getElem?_getD, List.getElem?_eq_getElem (by omega), Option.getD_some, Option.toList_some]
    obtain ⟨y, hy⟩ : ∃ y, ys[j]'(by omega) = y := ⟨_, rfl⟩
    rw [hy]
    unfold putN
    by_cases e : k = y.key
    · subst e
      rw [if_pos rfl, Option.getD_some]
      unfold withS
      rw [show inS (i : Int) = true from by unfold inS; exact decide_eq_true (by omega), if_pos rfl, Bits.testBit_put, Int.toNat_natCast, ih]
      simp
      cases ((f y.key).getD 0).testBit a <;> cases decide (i = a) <;> simp
    · rw [if_neg e, ih]
      have : (y.key == k) = false := by rw [beq_eq_false_iff_ne]; exact fun e2 => e e2.symm
      simp [this]
def wkO (hs : List Txr) (i : Nat) (k : Int) : Bool := (wOf hs i).any fun x => x.key == k
theorem wF_bit (hs : List Txr) (k : Int) (a : Nat) : ∀ n, n ≤ 64 → ((wF hs n k).getD 0).testBit a = (decide (a < n) && wkO hs a k)
  | 0, _ => by simp [wF]
  | n + 1, hn => by
    unfold wF
    rw [wTo_bit _ _ _ _ _ (by omega) _ (Nat.le_refl _), wF_bit hs k a n (by omega), List.take_length]
    by_cases e : n = a
    · subst e
      simp [wkO]
    · rw [decide_eq_false e, Bool.false_and, Bool.or_false]
      by_cases e2 : a < n
      · rw [decide_eq_true e2, decide_eq_true (show a < n + 1 by omega)]
      · rw [decide_eq_false e2, decide_eq_false (show ¬ a < n + 1 by omega)]
/-- The sets of some keys, put together. -/
def rivS (f : Int → Option Nat) (l : List Int) : Nat → Nat
  | 0 => 0
  | j + 1 => rivS f l j ||| (f (l.getD j 0)).getD 0
theorem rivS_lt {f : Int → Option Nat} (h : SetsOK f) (l : List Int) : ∀ j, rivS f l j < 18446744073709551616
  | 0 => by show 0 < 18446744073709551616; decide
  | j + 1 => or_ok (rivS_lt h l j) (h _)
theorem rivS_bit (f : Int → Option Nat) (l : List Int) (a : Nat) : ∀ j, j ≤ l.length → (rivS f l j).testBit a = (l.take j).any fun k => ((f k).getD 0).testBit a
  | 0, _ => by simp [rivS]
  | j + 1, hj => by
    unfold rivS
    rw [Nat.testBit_or, rivS_bit f l a j (by omega), List.take_add_one, List.any_append, List.getElem?_eq_getElem (by omega), List.getD_eq_getElem?_getD, List.getElem?_eq_getElem (by omega)]
    simp
/-- The rivals of one, by the program. -/
def rivO (f : Int → Option Nat) (l : List Int) (i : Int) : Nat := withoutS (rivS f l l.length) i
theorem rivO_lt {f : Int → Option Nat} (h : SetsOK f) (l : List Int) (i : Int) : rivO f l i < 18446744073709551616 := withoutS_lt _ _ (rivS_lt h l _)
theorem hasS_without (X i k : Nat) (hi : i < 64) (hk : k < 64) : hasS (withoutS X (i : Int)) (k : Int) = (X.testBit k && !decide (i = k)) := by
  have h1 : inS (i : Int) = true := by unfold inS; exact decide_eq_true (by omega)
  have h2 : inS (k : Int) = true := by unfold inS; exact decide_eq_true (by omega)
  unfold hasS withoutS
  rw [h1, h2, if_pos rfl, Bool.true_and, Bits.testBit_del, Int.toNat_natCast, Int.toNat_natCast]
theorem rivO_is {hs : List Txr} (hm : mayH hs = true) (hn : hs.length ≤ 64) {i k : Nat} (hi : i < hs.length) (hk : k < hs.length) : hasS (rivO (wF hs hs.length) ((wOf hs i).map Opn.key) (i : Int)) (k : Int) = rivB hs i k := by
  have e1 : (!decide (i = k)) = (i != k) := by by_cases e : i = k <;> simp [e]
  have hi64 : i < 64 := by omega
  have hk64 : k < 64 := by omega
  have h3 : rivB hs i k = (i != k && (List.range 64).any fun q => wkB hs i (q : Int) && wkB hs k (q : Int)) := by unfold rivB; rfl
  have h4 := fun q : Int => wkB_iff hm hi q
  have h5 := fun q : Int => wkB_iff hm hk q
  have h6 := fun q : Int => wF_bit hs q k hs.length hn
  have h7 : ∀ x ∈ wOf hs i, 0 ≤ x.key ∧ x.key < 64 := fun x hx => (wOf_mem hx).1
  have h8 : ∀ q : Int, ((wF hs hs.length q).getD 0).testBit k = wkO hs k q := fun q => by rw [h6, decide_eq_true hk, Bool.true_and]
  have h9 : ∀ q : Int, wkB hs k q = wkO hs k q := h5
  have h10 := fun l => rivS_bit (wF hs hs.length) l k l.length (Nat.le_refl _)
  unfold rivO
  rw [hasS_without _ _ _ hi64 hk64, h10, List.take_length, h3, Bool.and_comm, e1]
  clear h3 e1 hm h5 h6 h10
  generalize wF hs hs.length = f at h8 ⊢
  have h11 : ((List.map Opn.key (wOf hs i)).any fun q => ((f q).getD 0).testBit k) = ((List.range 64).any fun q => wkB hs i (q : Int) && wkB hs k (q : Int)) := by
    rw [Bool.eq_iff_iff, List.any_eq_true, List.any_eq_true]
    constructor
    · rintro ⟨q, h1, h2⟩
      rw [List.mem_map] at h1
      obtain ⟨x, hx1, rfl⟩ := h1
      have hx := h7 x hx1
      rw [h8] at h2
      refine ⟨x.key.toNat, List.mem_range.2 (by omega), ?_⟩
      rw [show ((x.key.toNat : Nat) : Int) = x.key by omega, h4, h9, h2, Bool.and_true, List.any_eq_true]
      exact ⟨x, hx1, beq_self_eq_true _⟩
    · rintro ⟨q, h1, h2⟩
      rw [h4, h9, Bool.and_eq_true, List.any_eq_true] at h2
      obtain ⟨⟨x, hx1, hx2⟩, h2⟩ := h2
      rw [beq_iff_eq] at hx2
      exact ⟨(q : Int), List.mem_map.2 ⟨x, hx1, hx2⟩, by rw [h8]; exact h2⟩
  rw [h11]
end Go.Proofs.YtlhfpnkfapghoaaDoor
end

section
/- Who comes ahead of whom never comes back: in plain words. No condition but each theorem's own. -/
set_option linter.unusedVariables false
set_option linter.unusedSimpArgs false
namespace Go.Proofs.YtlhfpnkfapghoaaDoor
open Go.RowKit Go.Maps

/-- Each step rises. -/
def Rises (φ : Nat → Int) (r : Nat → Nat) : Prop := ∀ a b : Nat, (r a).testBit b = true → φ a < φ b
theorem hasS_bit {s k : Nat} (h : hasS s (k : Int) = true) : s.testBit k = true := by
  unfold hasS at h
  rw [Bool.and_eq_true, Int.toNat_natCast] at h
  exact h.2
theorem innerC_rises {φ : Nat → Int} {r : Nat → Nat} (h : Rises φ r) (k : Nat) : ∀ i, Rises φ (innerC r k i)
  | 0 => h
  | i + 1 => by
    have ih := innerC_rises h k i
    unfold innerC
    split
    · rename_i hk
      have hk2 := hasS_bit hk
      intro a b hb
      unfold rowSet at hb
      split at hb
      · rename_i e
        subst e
        rw [Nat.testBit_or, Bool.or_eq_true] at hb
        rcases hb with hb | hb
        · exact ih _ _ hb
        · exact Int.lt_trans (ih _ _ hk2) (ih _ _ hb)
      · exact ih a b hb
    · exact ih
theorem closeR_rises {φ : Nat → Int} {r : Nat → Nat} (h : Rises φ r) : ∀ k, Rises φ (closeR r k)
  | 0 => h
  | k + 1 => innerC_rises (closeR_rises h k) k 64
theorem acy_of_rises {φ : Nat → Int} {r : Nat → Nat} (h : Rises φ r) : acyR r = true := by
  unfold acyR
  refine all_yes fun i hi => ?_
  cases e : hasS (closeR r 64 i) (i : Int) with
  | false => rfl
  | true => exact absurd (closeR_rises h 64 i i (hasS_bit e)) (Int.lt_irrefl _)
theorem pairs_testBit {q : Nat → Nat → Bool} {n a b : Nat} (h : (pairsR q n a).testBit b = true) : a < n ∧ b < n ∧ a ≠ b ∧ q a b = true := by
  unfold pairsR at h
  split at h
  · rename_i ha
    rw [rowB_bit, Bool.and_eq_true, Bool.and_eq_true] at h
    exact ⟨ha, of_decide_eq_true h.1, by simpa using h.2.1, h.2.2⟩
  · simp at h
theorem pairs_testBit2 {q : Nat → Nat → Bool} {n a b : Nat} (ha : a < n) (hb : b < n) (hab : a ≠ b) (h : q a b = true) : (pairsR q n a).testBit b = true := by
  unfold pairsR
  rw [if_pos ha, rowB_bit, decide_eq_true hb, h]
  simp [hab]
theorem ses_acy (hs : List Txr) (n : Nat) : acyR (pairsR (sesB hs) n) = true := by
  refine acy_of_rises (φ := fun a => (a : Int)) fun a b h => ?_
  have := (pairs_testBit h).2.2.2
  unfold sesB at this
  rw [Bool.and_eq_true] at this
  have := of_decide_eq_true this.1
  show (a : Int) < b
  omega
theorem may_head {hs : List Txr} (h : mayH hs = true) {i : Nat} (hi : i < hs.length) : (hs.getD i txrZero).beg < (hs.getD i txrZero).com := by
  have h1 := all_iff.1 ((may_iff hs).1 h).1 i hi
  unfold txrOkB txnOk at h1
  rw [Bool.and_eq_true] at h1
  have h3 := h1.1
  unfold headOk at h3
  simp only [Bool.and_eq_true, decide_eq_true_eq] at h3
  exact h3.1.1.1.2
theorem time_acy {hs : List Txr} (h : mayH hs = true) : acyR (pairsR (timeB hs) hs.length) = true := by
  refine acy_of_rises (φ := fun a => (hs.getD a txrZero).com) fun a b hb => ?_
  obtain ⟨_, h1, _, h2⟩ := pairs_testBit hb
  unfold timeB at h2
  have h3 := of_decide_eq_true h2
  have h4 := may_head h h1
  show (hs.getD a txrZero).com < (hs.getD b txrZero).com
  omega
theorem ses_time {hs : List Txr} (h : mayH hs = true) {i k : Nat} (hi : i < hs.length) (hk : k < hs.length) (hs1 : sesB hs i k = true) : timeB hs i k = true := by
  unfold sesB at hs1
  rw [Bool.and_eq_true, beq_iff_eq] at hs1
  have h1 := of_decide_eq_true hs1.1
  have h2 := ((may_iff hs).1 h).2.1 k hk i h1
  unfold apartB at h2
  unfold timeB
  rw [decide_eq_true_iff]
  simp only [Bool.and_eq_true, Bool.not_eq_true', Bool.or_eq_false_iff, Bool.and_eq_false_iff, beq_eq_false_iff_ne, decide_eq_false_iff_not] at h2
  rcases h2.2 with h3 | h3
  · exact absurd hs1.2 h3
  · have := h2.1.2.2.1
    omega
theorem within_of {s t : Nat} (h : ∀ i, s.testBit i = true → t.testBit i = true) : withinS s t = true := by
  unfold withinS
  rw [beq_iff_eq]
  apply Nat.eq_of_testBit_eq
  intro i
  rw [Nat.testBit_xor, Nat.testBit_and, Nat.zero_testBit]
  cases e : s.testBit i with
  | false => simp
  | true => rw [h i e]; rfl
theorem ses_within {hs : List Txr} (h : mayH hs = true) : withinR (pairsR (sesB hs) hs.length) (pairsR (timeB hs) hs.length) = true := by
  unfold withinR
  refine all_yes fun i _ => within_of fun k hk => ?_
  obtain ⟨h1, h2, h3, h4⟩ := pairs_testBit hk
  exact pairs_testBit2 h1 h2 h3 (ses_time h h1 h2 h4)
end Go.Proofs.YtlhfpnkfapghoaaDoor
end

section
/- What a transaction reads of others, by the document (burgageref08.Reads). No condition but each theorem's own. -/
set_option linter.unusedVariables false
set_option linter.unusedSimpArgs false
namespace Go.Proofs.YtlhfpnkfapghoaaDoor
open Go.RowKit Go.Maps

/-! ### Rows of two numbers each -/
theorem flatR_at (l : List (Int × Int)) : ∀ j, j < l.length → (flatR l)[j * 2]? = some (.int .i64 (l.getD j (0, 0)).1) ∧ (flatR l)[j * 2 + 1]? = some (.int .i64 (l.getD j (0, 0)).2) := by
  induction l with
  | nil => intro j h; simp at h
  | cons p l ih =>
    intro j h
    cases j with
    | zero => exact ⟨rfl, rfl⟩
    | succ j =>
      have := ih j (by simpa using h)
      rw [show (j + 1) * 2 = j * 2 + 2 from by omega]
      simpa [flatR] using this
def OwnQ (w : World) (base e : Nat) (v : Value) (xs : List (Int × Int)) : Prop := w.ownsRow base e 2 v xs.length (flatR xs)
/-- A slice value reads as this list of pairs. -/
def Prs (w : World) (v : Value) (xs : List (Int × Int)) : Prop :=
  ∃ A c, v = .slice A xs.length c ∧ (xs.length ≤ c ∧ xs.length ≤ 9223372036854775807) ∧ ∀ j, j < xs.length → ∃ ad, A = some ad ∧ w.cell? (ad.add (j * 2)) = some (.int .i64 (xs.getD j (0, 0)).1) ∧ w.cell? ⟨(ad.add (j * 2)).block, (ad.add (j * 2)).off + 1, none⟩ = some (.int .i64 (xs.getD j (0, 0)).2)
theorem OwnQ.prs {w : World} {base e : Nat} {v : Value} {xs : List (Int × Int)} (h : OwnQ w base e v xs) : Prs w v xs := by
  have h0 := h.2
  rcases h0 with ⟨hv, hn⟩ | ⟨g, cap, cur, hv, hb, hg, hle2, hcap, hsz, htake⟩
  · have : xs = [] := List.eq_nil_of_length_eq_zero hn
    subst this
    exact ⟨none, 0, hv, by simp, fun j h => absurd h (by simp)⟩
  · refine ⟨_, _, hv, ⟨hle2, by unfold maxLen at hcap; omega⟩, fun j hj => ⟨_, rfl, ?_⟩⟩
    have hc := World.ownsRow.cells h (g := g) (by rw [hv]; rfl)
    have hf := flatR_at xs j hj
    rw [add_next _ _ _ (by omega)]
    exact ⟨hc _ _ hf.1, hc _ _ hf.2⟩
theorem Prs.keep {w w' : World} {v : Value} {xs : List (Int × Int)} (h : Prs w v xs) (hc : Ch nob w w') : Prs w' v xs := by
  obtain ⟨A, c, rfl, hl, hx⟩ := h
  refine ⟨A, c, rfl, hl, fun j hj => ?_⟩
  obtain ⟨ad, rfl, h1, h2⟩ := hx j hj
  have keep : ∀ p v, w.cell? p = some v → w'.cell? p = some v := fun p v h1 => (World.cell?_of_block (hc.block _ (World.block_lt_of_cell? w _ h1) (fun h => h))).trans h1
  exact ⟨ad, rfl, keep _ _ h1, keep _ _ h2⟩
theorem Prs.shape {w : World} {v : Value} {xs : List (Int × Int)} (h : Prs w v xs) : ∃ A c, v = .slice A xs.length c := by
  obtain ⟨A, c, rfl, _, _⟩ := h; exact ⟨A, c, rfl⟩
theorem Prs.at {w : World} {A : Option Addr} {c n : Nat} {xs : List (Int × Int)} (h : Prs w (.slice A n c) xs) : n = xs.length ∧ (xs.length ≤ c ∧ xs.length ≤ 9223372036854775807) ∧ ∀ j, j < xs.length → ∃ ad, A = some ad ∧ w.cell? (ad.add (j * 2)) = some (.int .i64 (xs.getD j (0, 0)).1) ∧ w.cell? ⟨(ad.add (j * 2)).block, (ad.add (j * 2)).off + 1, none⟩ = some (.int .i64 (xs.getD j (0, 0)).2) := by
  obtain ⟨A', c', hv, hl, hx⟩ := h
  simp only [Value.slice.injEq] at hv
  obtain ⟨rfl, rfl, rfl⟩ := hv
  exact ⟨rfl, hl, hx⟩
theorem OwnQ.made (w : World) (base e : Nat) (hb : base ≤ w.heap.size) : OwnQ (w.alloc (.cells #[] e)) base e (.slice (some ⟨w.heap.size, 0, none⟩) 0 0) [] :=
  World.ownsRow_made w #[] 0 hb (by unfold maxLen; omega) (by simp)
theorem OwnQ.to {w : World} {base e : Nat} {v : Value} {xs ys : List (Int × Int)} (h : OwnQ w base e v xs) (he : xs = ys) : OwnQ w base e v ys := he ▸ h
theorem OwnQ.keep {w w' : World} {base e : Nat} {v : Value} {xs : List (Int × Int)} (h : OwnQ w base e v xs) (hc : Ch nob w w') : OwnQ w' base e v xs := row_keep h hc
theorem OwnQ.alloc {w : World} {base e : Nat} {v : Value} {xs : List (Int × Int)} (h : OwnQ w base e v xs) (o : Obj) : OwnQ (w.alloc o) base e v xs := World.ownsRow.alloc h o
theorem OwnQ.ge {w : World} {base e : Nat} {v : Value} {xs : List (Int × Int)} (h : OwnQ w base e v xs) (b : Nat) (hb : v.ownBlock = some b) : base ≤ b ∧ b < w.heap.size := World.ownsRow.lt h b hb
theorem wpList_append_pr {P : Program} {w : World} {ops : Array Oper} {rest : List Oper} {o : Oper} {a : Act} {Q : Exit → Act → World → Prop} (hgd : o.guard = none) (s x : Operand) (t e : TypeId)
    (ho : o.op = .call { callee := .builtin .append, args := #[s, x], argTypes := #[t, t] }) (he : ElemOK P t e (.agg #[.int .i64 0, .int .i64 0]) 2 16)
    (base : Nat) (v : Value) (xs : List (Int × Int)) (hs : a.eval s = v) (hown : OwnQ w base e v xs)
    (g : Nat) (y : Int × Int) (T : TypeId) (hx : a.eval x = .slice (some ⟨g, 0, none⟩) 1 1) (hb : Blk w g #[.int .i64 y.1, .int .i64 y.2] T) (hn : xs.length ≤ 1000000) (hbase : base ≤ w.heap.size)
    (h : ∀ v' w', OwnQ w' base e v' (xs ++ [y]) → w.grownBy w' v.ownBlock → wpList P ops Q rest (a.put o.dst v') w') : wpList P ops Q (o :: rest) a w :=
  wpList_append1 hgd s x t e ho (.agg #[.int .i64 0, .int .i64 0]) 2 16 he rfl (by decide) (by decide) base v xs.length _ hs hown g _ T hx hb rfl (by intro u hu; simp at hu; rcases hu with rfl | rfl <;> rfl) (by omega) hbase
    (fun v' w' h1 h2 => h v' w' (by
      unfold OwnQ
      rw [flatR_append, List.length_append]
      exact h1) h2)
theorem elem_r8 : ElemOK Tryd.prog 134 137 (.agg #[.int .i64 0, .int .i64 0]) 2 16 := ⟨by kernel_rfl, by kernel_rfl⟩
theorem may_len {hs : List Txr} (h : mayH hs = true) {i : Nat} (hi : i < hs.length) : (hs.getD i txrZero).ops.length ≤ 64 := by
  have h1 := all_iff.1 ((may_iff hs).1 h).1 i hi
  unfold txrOkB txnOk at h1
  rw [Bool.and_eq_true] at h1
  have h3 := h1.1
  unfold headOk at h3
  simp only [Bool.and_eq_true, decide_eq_true_eq] at h3
  exact h3.2
/-- The writer of what is read, by the document: what the program says. -/
theorem writer_of (w : World) (v : Value) (hs : List Txr) (M : WM) (i : Nat) (x : Opn) (k u fr : Int) (hv : Txns w v hs) (hn : countTo hs hs.length ≤ 1000000) (hm : mayH hs = true) (hM : histF hs hs.length = some M) (hi : i < hs.length) (hx : x ∈ rOf hs i) (hk : x.key = k) (hu : x.val = u) (h0 : u ≠ 0) (hf : fromOf M x = fr) :
    Calls Tryd.prog 126 #[v, .int .i64 k, .int .i64 u] w fun e w' => e = .returned (.int .i64 fr) ∧ Ch nob w w' := by
  refine (writer_ref06 w v hs k u hv hn).mono ?_
  rintro e w' ⟨z, rfl, hz, hc⟩
  subst hk hu
  rw [from_is hm hM hi hx h0 hz] at hf
  rw [hf]
  exact ⟨rfl, hc⟩
def RetPairs (w : World) (T : TypeId) (xs : List (Int × Int)) (e : Ending) (w' : World) : Prop := ∃ v, e = .returned v ∧ OwnQ w' w.heap.size T v xs ∧ Ch nob w w'
theorem row_off_op {w w' : World} {base e b2 e2 : Nat} {v u : Value} {xs : List Opn} {ys : List (Int × Int)} (h : OwnO w base e v xs) (k : OwnQ w b2 e2 u ys) (hne : e ≠ e2) (hg : w.grownBy w' u.ownBlock) : OwnO w' base e v xs :=
  h.grown hg fun b hb hq => row_row_ne (w := w) h k hne b hb hq
set_option maxRecDepth 100000 in
set_option maxHeartbeats 4000000 in
theorem reads_ref08 (w : World) (v : Value) (hs : List Txr) (i : Nat) (M : WM) (hv : Txns w v hs) (hn : countTo hs hs.length ≤ 1000000) (hm : mayH hs = true) (hM : histF hs hs.length = some M) (hi : i < hs.length) :
    Calls Tryd.prog 89 #[v, .int .i64 i] w (RetPairs w 137 (rdOf M hs i)) := by
  obtain ⟨A, cp, rfl⟩ := hv.shape
  have hc0 : Ch nob w (w.alloc (.cells #[] 137)) := (Ch.refl _ _).alloc _
  have hp0 := Lib.hid (OwnQ.made w w.heap.size 137 (Nat.le_refl _))
  obtain ⟨ad, u, rfl, hx0, hx1, hx2, hx3, hu⟩ := (hv.keep hc0).at.2.2 i hi
  obtain ⟨A2, c2, rfl⟩ := hu.shape
  have HRD := Lib.hid (reads_ref05 _ _ _ hu (by have := may_len hm hi; omega))
  have HW := Lib.hid (fun (wr : World) (x : Opn) (k u fr : Int) (hc : Ch nob w wr) => writer_of wr _ hs M i x k u fr (hv.keep hc) hn hm hM hi)
  have HLN := Lib.hid (show (rOf hs i).length ≤ 10000 from by
    have h1 := readsR_len (hs.getD i txrZero).ops 64
    have h2 := may_len hm hi
    have h3 := Nat.mul_le_mul (Nat.le_refl 64) h2
    unfold rOf; omega)
  have HRO := Lib.hid (show rdOf M hs i = rdTo M i (rOf hs i) (rOf hs i).length from rfl)
  rw [show readsR (hs.getD i txrZero).ops 64 = rOf hs i from rfl] at HRD
  obtain ⟨l2, hl2⟩ : ∃ l, (hs.getD i txrZero).ops.length = l := ⟨_, rfl⟩
  rw [hl2] at HRD hx3
  obtain ⟨ys, hys⟩ : ∃ ys, rOf hs i = ys := ⟨_, rfl⟩
  rw [hys] at HRD HW HLN HRO
  obtain ⟨n, hn2⟩ : ∃ n, hs.length = n := ⟨_, rfl⟩
  rw [hn2] at HW hi ⊢
  clear hv hu hl2 hys hn2 hn hm hM hx0 hx1 hx2
  go_enter Tryd.func89, Tryd.ntmps89
  go_wp2_with fail
  refine HRD.out.mono ?_
  rintro e w1 ⟨v1, rfl, ho, hc1⟩
  obtain ⟨A1, c1, hv1⟩ := ho.opl.shape
  obtain ⟨q, hq⟩ : ∃ q, ys.length = q := ⟨_, rfl⟩
  have hql : q ≤ 9223372036854775807 := by rw [← hq]; exact ho.len
  have HQ := Lib.hid hq
  rw [hq] at hv1
  subst hv1
  have HO := Lib.hid ho
  have hp1 := Lib.hid (hp0.out.keep hc1)
  have hc2 := hc0.seq hc1
  have hz1 := hc1.size
  have hzz : w.heap.size ≤ w1.heap.size := hc2.size
  clear HRD ho hq hp0 hc0 hc1 hz1 hx3
  go_wp2_with fail
  obtain ⟨bs, hbs⟩ : ∃ bs, w.heap.size + 1 = bs := ⟨_, rfl⟩
  have HO2 : Hid (OwnO w1 w.heap.size 121 (.slice A1 q c1) ys) := Lib.hid (by
    have h := HO.out
    unfold OwnO at h ⊢
    refine ⟨h.1, h.2.imp id ?_⟩
    rintro ⟨g, cap, cur, h1, h2, h3⟩
    exact ⟨g, cap, cur, h1, by simp at h2; omega, h3⟩)
  clear HO hbs
  go_loopw [7, 5] (fun x y wr => ∃ j : Nat, x = .int .i64 j ∧ j ≤ q ∧ Hid (OwnQ wr w.heap.size 137 y (rdTo M i ys j)) ∧ Hid (OwnO wr w.heap.size 121 (.slice A1 q c1) ys) ∧ Ch nob w wr) (fun x _ _ => q - (intOf x).toNat)
  case atStart => exact ⟨0, rfl, Nat.zero_le _, hp1, HO2, hc2⟩
  case round =>
    clear hp1 HO2 hc2
    obtain ⟨j, rfl, hj, hp, ho, hc⟩ := hrel
    by_cases hlt : j < q
    · have hd : decide ((j : Int) < (q : Int)) = true := decide_eq_true (by omega)
      obtain ⟨ad2, rfl, hy0, hy1, hy2⟩ := ho.out.opl.at.2.2 j (by rw [HQ.out]; exact hlt)
      obtain ⟨x, hx⟩ : ∃ x, ys.getD j opZero = x := ⟨_, rfl⟩
      have HMM := Lib.hid (show x ∈ ys from by rw [← hx]; exact getD_mem (by rw [HQ.out]; exact hlt))
      have HX := Lib.hid hx
      rw [hx] at hy0 hy1 hy2
      obtain ⟨xw, xk, xv⟩ := x
      obtain ⟨fr, hfr⟩ : ∃ fr, fromOf M ⟨xw, xk, xv⟩ = fr := ⟨_, rfl⟩
      have HF := Lib.hid hfr
      have HPL := Lib.hid (show (rdTo M i ys j).length ≤ 1000000 from by
        have := rdTo_len M i ys j
        have := HLN.out
        have := HQ.out
        omega)
      dsimp only at hy1 hy2
      clear hx hy0 hfr
      cases h0 : (xv != 0) with
      | false =>
        have hv0 : xv = 0 := by simpa using h0
        have HF1 : fr = -1 := by rw [← HF.out, hv0]; rfl
        subst HF1
        by_cases hne : (-1 : Int) = (i : Int)
        · omega
        · have hd2 : ((-1 : Int) != (i : Int)) = true := by rw [bne_iff_ne]; exact hne
          have hnb := Lib.hid (Blk.new wr #[.int .i64 xk, .int .i64 (-1)] 137)
          have hp5 := Lib.hid (hp.out.alloc (.cells #[.int .i64 xk, .int .i64 (-1)] 137))
          have ho5 := Lib.hid (ho.out.alloc (.cells #[.int .i64 xk, .int .i64 (-1)] 137))
          have hc5 := hc.alloc (.cells #[.int .i64 xk, .int .i64 (-1)] 137)
          have hz5 := Lib.hid hc5.size
          clear hp ho hc
          go_wp2_with (at_builtin; refine wpList_append_pr rfl (.tmp 43) (.tmp 51) 134 137 rfl elem_r8 w.heap.size _ _ rfl hp5.out _ (xk, -1) 137 rfl (by simpa using hnb.out) HPL.out hz5.out ?_; intro v3 w3 hown3 hg3; have hc6 := hc5.grown_own hg3 (fun b hb => (hp5.out.ge b hb).1))
          have hp6 := Lib.hid (hown3.to (show rdTo M i ys j ++ [(xk, -1)] = rdTo M i ys (j + 1) from by
            have := rdTo_step (M := M) (i := i) HX.out (by rw [HF.out]; exact hne)
            rw [HF.out] at this; exact this))
          have ho6 := Lib.hid (row_off_op ho5.out hp5.out (by decide) hg3)
          clear hp5 ho5 hc5 hz5 hnb hown3 hg3
          go_roundw
          case rel => exact ⟨j + 1, by go_num, by omega, hp6, ho6, hc6⟩
          case measure => simp [intOf]; omega
      | true =>
        have HNE := Lib.hid (show xv ≠ 0 from by simpa using h0)
        have H := Lib.hid (fun (uu : Ext wr) => ext_of (HW.out uu.val ⟨xw, xk, xv⟩ xk xv fr (hc.seq uu.ch) HMM.out rfl rfl HNE.out HF.out))
        have X1 := fun uu : Ext wr => Ext.cell hy1 uu
        have X2 := fun uu : Ext wr => Ext.cell hy2 uu
        go_wp2_with fail
        refine wp_region_ch (w0 := wr) (by kernel_rfl) (by kernel_rfl) (Ch.refl _ _) ?_
        repeat go_big_quiet_step (first | exact H.out _ | fail)
        refine wpQuiet_nil ?_
        rintro wq ⟨⟨_, hcq⟩, rfl⟩
        have hp2 := Lib.hid (hp.out.keep hcq)
        have ho2 := Lib.hid (ho.out.keep hcq)
        have hcw := hc.seq hcq
        obtain ⟨ad9, had9, hY0, hY1, hY2⟩ := ho2.out.opl.at.2.2 j (by rw [HQ.out]; exact hlt)
        obtain rfl := Option.some.inj had9
        rw [HX.out] at hY1
        dsimp only at hY1
        clear hp ho hc hcq X1 X2 H hy1 hy2 hY0 hY2 had9
        by_cases hne : fr = (i : Int)
        · have hd2 : (fr != (i : Int)) = false := by simp [hne]
          have hp6 := Lib.hid (hp2.out.to (rdTo_skip (M := M) (i := i) HX.out (by rw [HF.out]; exact hne)))
          clear hp2
          go_wp2_with fail
          go_roundw
          case rel => exact ⟨j + 1, by go_num, by omega, hp6, ho2, hcw⟩
          case measure => simp [intOf]; omega
        · have hd2 : (fr != (i : Int)) = true := by simp [hne]
          have hnb := Lib.hid (Blk.new wq #[.int .i64 xk, .int .i64 fr] 137)
          have hp5 := Lib.hid (hp2.out.alloc (.cells #[.int .i64 xk, .int .i64 fr] 137))
          have ho5 := Lib.hid (ho2.out.alloc (.cells #[.int .i64 xk, .int .i64 fr] 137))
          have hc5 := hcw.alloc (.cells #[.int .i64 xk, .int .i64 fr] 137)
          have hz5 := Lib.hid hc5.size
          clear hp2 ho2 hcw
          go_wp2_with (at_builtin; refine wpList_append_pr rfl (.tmp 43) (.tmp 51) 134 137 rfl elem_r8 w.heap.size _ _ rfl hp5.out _ (xk, fr) 137 rfl (by simpa using hnb.out) HPL.out hz5.out ?_; intro v3 w3 hown3 hg3; have hc6 := hc5.grown_own hg3 (fun b hb => (hp5.out.ge b hb).1))
          have hp6 := Lib.hid (hown3.to (show rdTo M i ys j ++ [(xk, fr)] = rdTo M i ys (j + 1) from by
            have := rdTo_step (M := M) (i := i) HX.out (by rw [HF.out]; exact hne)
            rw [HF.out] at this; exact this))
          have ho6 := Lib.hid (row_off_op ho5.out hp5.out (by decide) hg3)
          clear hp5 ho5 hc5 hz5 hnb hown3 hg3
          go_roundw
          case rel => exact ⟨j + 1, by go_num, by omega, hp6, ho6, hc6⟩
          case measure => simp [intOf]; omega
    · have hd : decide ((j : Int) < (q : Int)) = false := decide_eq_false (by omega)
      obtain rfl : j = q := by omega
      have hp6 := Lib.hid (hp.out.to (show rdTo M i ys j = rdOf M hs i from by rw [HRO.out, HQ.out]))
      clear hp
      go_wp2_with fail
      go_ret
      exact ⟨_, rfl, hp6.out, hc⟩
end Go.Proofs.YtlhfpnkfapghoaaDoor
end

section
/- Who reads of whom, and is it sound, by the document (burgageref08.From, Sound). No condition but each theorem's own. -/
set_option linter.unusedVariables false
set_option linter.unusedSimpArgs false
namespace Go.Proofs.YtlhfpnkfapghoaaDoor
open Go.RowKit Go.Maps

theorem drop_pr {ys : List (Int × Int)} {i : Nat} (hi : i < ys.length) {x : Int × Int} (hx : ys.getD i (0, 0) = x) : ys.drop i = x :: ys.drop (i + 1) := by
  rw [List.getD_eq_getElem?_getD, List.getElem?_eq_getElem hi, Option.getD_some] at hx
  rw [← hx]
  exact List.drop_eq_getElem_cons hi
set_option maxRecDepth 100000 in
set_option maxHeartbeats 2000000 in
theorem from_ref08 (w : World) (v : Value) (hs : List Txr) (i k : Nat) (M : WM) (hv : Txns w v hs) (hn : countTo hs hs.length ≤ 1000000) (hm : mayH hs = true) (hM : histF hs hs.length = some M) (hk : k < hs.length) :
    Calls Tryd.prog 28 #[v, .int .i64 i, .int .i64 k] w fun e w' => e = .returned (.bool (fromB M hs i k)) ∧ Ch nob w w' := by
  have HR := Lib.hid (reads_ref08 w v hs k M hv hn hm hM hk)
  have HB := Lib.hid (show fromB M hs i k = (rdOf M hs k).any fun p => p.2 == (i : Int) from rfl)
  obtain ⟨ys, hys⟩ : ∃ ys, rdOf M hs k = ys := ⟨_, rfl⟩
  rw [hys] at HR HB
  obtain ⟨A, cp, rfl⟩ := hv.shape
  obtain ⟨n, hn2⟩ : ∃ n, hs.length = n := ⟨_, rfl⟩
  rw [hn2] at HR ⊢
  clear hv hn hm hM hys hn2 hk
  go_enter Tryd.func28, Tryd.ntmps28
  go_wp2_with fail
  refine HR.out.mono ?_
  rintro e w1 ⟨v1, rfl, ho, hc1⟩
  obtain ⟨A1, c1, hv1⟩ := ho.prs.shape
  obtain ⟨q, hq⟩ : ∃ q, ys.length = q := ⟨_, rfl⟩
  have HQ := Lib.hid hq
  rw [hq] at hv1
  subst hv1
  have HO := Lib.hid ho.prs
  have hql : q ≤ 9223372036854775807 := by have := ho.prs.at.2.1.2; rw [hq] at this; exact this
  clear ho hq HR
  go_wp2_with fail
  go_loopw [8] (fun x wr => ∃ j : Nat, x = .int .i64 j ∧ j ≤ q ∧ Hid ((ys.any fun p => p.2 == (i : Int)) = ((ys.drop j).any fun p => p.2 == (i : Int))) ∧ w1 = wr) (fun x _ => q - (intOf x).toNat)
  case atStart => exact ⟨0, rfl, Nat.zero_le _, Lib.hid rfl, rfl⟩
  case round =>
    obtain ⟨j, rfl, hj, hf, rfl⟩ := hrel
    by_cases hlt : j < q
    · have hd : decide ((j : Int) < (q : Int)) = true := decide_eq_true (by omega)
      obtain ⟨ad, rfl, hx0, hx1⟩ := HO.out.at.2.2 j (by rw [HQ.out]; exact hlt)
      have hdr := drop_pr (show j < ys.length from by rw [HQ.out]; exact hlt) rfl
      obtain ⟨x, hx⟩ : ∃ x, ys.getD j (0, 0) = x := ⟨_, rfl⟩
      rw [hx] at hx0 hx1 hdr
      have HD := Lib.hid (show (ys.any fun p => p.2 == (i : Int)) = (x.2 == (i : Int) || (ys.drop (j + 1)).any fun p => p.2 == (i : Int)) from by rw [hf.out, hdr]; rfl)
      obtain ⟨xk, xf⟩ := x
      dsimp only at hx1
      clear hx hdr hx0
      cases e : (xf == (i : Int)) with
      | true =>
        have HF := Lib.hid (show fromB M hs i k = true from by rw [HB.out, HD.out]; show (xf == (i : Int) || _) = true; rw [e]; rfl)
        go_wp2_with fail
        go_ret
        exact ⟨ret_bool HF.out.symm, hc1⟩
      | false =>
        have HF := Lib.hid (show (ys.any fun p => p.2 == (i : Int)) = ((ys.drop (j + 1)).any fun p => p.2 == (i : Int)) from by rw [HD.out]; show (xf == (i : Int) || _) = _; rw [e]; rfl)
        go_wp2_with fail
        go_roundw
        case rel => exact ⟨j + 1, by go_num, by omega, HF, trivial⟩
        case measure => simp [intOf]; omega
    · have hd : decide ((j : Int) < (q : Int)) = false := decide_eq_false (by omega)
      have HF := Lib.hid (show fromB M hs i k = false from by rw [HB.out, hf.out, List.drop_eq_nil_of_le (by rw [HQ.out]; omega)]; rfl)
      go_wp2_with fail
      go_ret
      exact ⟨ret_bool HF.out.symm, hc1⟩

/-- What is read of others is the last value: by the document. -/
theorem last_of (w : World) (v : Value) (xs : List Opn) (s b c k u z : Int) (hz : valR xs k = z) (hv : Opl w v xs) (hn : xs.length ≤ 64) : Calls Tryd.prog 131 #[.agg #[.int .i64 s, .int .i64 b, .int .i64 c, v], .int .i64 k, .int .i64 u] w fun e w' => e = .returned (.bool (z == u)) ∧ Ch nob w w' :=
  last_ref06 w v xs s b c k u z hz hv (by omega)
set_option maxRecDepth 100000 in
set_option maxHeartbeats 8000000 in
theorem sound_ref08 (w : World) (v : Value) (hs : List Txr) (M : WM) (hv : Txns w v hs) (hn : countTo hs hs.length ≤ 1000000) (hm : mayH hs = true) (hM : histF hs hs.length = some M) :
    Calls Tryd.prog 107 #[v] w fun e w' => e = .returned (.bool (sdAll M hs hs.length)) ∧ Ch nob w w' := by
  obtain ⟨A, cp, rfl⟩ := hv.shape
  have HV := Lib.hid hv
  have HM := Lib.hid hm
  have HMM := Lib.hid hM
  have HW := Lib.hid (fun (wr : World) (i : Nat) (x : Opn) (k u fr : Int) (hc : Ch nob w wr) => writer_of wr _ hs M i x k u fr (hv.keep hc) hn hm hM)
  have HSD := Lib.hid (sdAll_all M hs hs.length)
  obtain ⟨_, ⟨_, hlen⟩, _⟩ := hv.at
  obtain ⟨n, hn2⟩ : ∃ n, hs.length = n := ⟨_, rfl⟩
  have HN := Lib.hid hn2
  rw [hn2] at HV HW hlen ⊢
  clear hv hn2 hn hm hM
  go_enter Tryd.func107, Tryd.ntmps107
  go_wp2_with fail
  go_loopw [3] (fun x wr => ∃ i : Nat, x = .int .i64 i ∧ i ≤ n ∧ Hid (∀ j, j < i → soundAt M hs j = true) ∧ Ch nob w wr) (fun x _ => n - (intOf x).toNat)
  case atStart => exact ⟨0, rfl, Nat.zero_le _, Lib.hid (fun j hj => by omega), Ch.refl _ _⟩
  case round =>
    obtain ⟨i, rfl, hi, hst, hc⟩ := hrel
    by_cases hlt : i < n
    · have hd : decide ((i : Int) < (n : Int)) = true := decide_eq_true (by omega)
      have HI := Lib.hid (show i < hs.length from by rw [HN.out]; exact hlt)
      obtain ⟨ad, u, rfl, hx0, hx1, hx2, hx3, hu⟩ := HV.out.both hc i HI.out
      have hlx := may_len HM.out HI.out
      have HST := Lib.hid (show soundAt M hs i = (steadyB (hs.getD i txrZero).ops && (rOf hs i).all (okOf M i)) from rfl)
      have HNO := Lib.hid (show soundAt M hs i = false → sdAll M hs n = false from fun h => by rw [← HN.out, HSD.out]; exact all_no HI.out h)
      have HRO := Lib.hid (show readsR (hs.getD i txrZero).ops 64 = rOf hs i from rfl)
      obtain ⟨xs, hxs⟩ : ∃ xs, (hs.getD i txrZero).ops = xs := ⟨_, rfl⟩
      rw [hxs] at hu hlx HST HRO
      obtain ⟨A2, c2, rfl⟩ := hu.shape
      obtain ⟨l, hl⟩ : ∃ l, xs.length = l := ⟨_, rfl⟩
      rw [hl] at hx3 hu
      have HU := Lib.hid hu
      have HLX := Lib.hid hlx
      clear hxs hl hu hx0 hx1 hx2 hlx
      go_wp2_with fail
      refine (steady_ref05 _ (.slice A2 l c2) xs (HU.out.keep hc) (Nat.le_trans HLX.out (by decide))).mono ?_
      rintro e w1 ⟨rfl, hc1⟩
      have hc2 := hc.seq hc1
      have hx3b := cell_keep hx3 hc1
      clear hx3 hc hc1
      cases hsd : steadyB xs with
      | false =>
        have HF := Lib.hid (HNO.out (by rw [HST.out, hsd]; rfl))
        go_wp2_with fail
        go_ret
        exact ⟨ret_bool HF.out.symm, hc2⟩
      | true =>
        have HRD := Lib.hid (reads_ref05 w1 (.slice A2 l c2) xs (HU.out.keep hc2) (Nat.le_trans HLX.out (by decide)))
        rw [HRO.out] at HRD
        have HST2 := Lib.hid (show soundAt M hs i = (rOf hs i).all (okOf M i) from by rw [HST.out, hsd, Bool.true_and])
        obtain ⟨ys, hys⟩ : ∃ ys, rOf hs i = ys := ⟨_, rfl⟩
        rw [hys] at HRD HST2
        have HYS := Lib.hid hys
        clear hys hsd HST
        go_wp2_with fail
        refine HRD.out.mono ?_
        rintro e w2 ⟨v2, rfl, ho, hc3⟩
        obtain ⟨A3, c3, hv3⟩ := ho.opl.shape
        obtain ⟨q, hq⟩ : ∃ q, ys.length = q := ⟨_, rfl⟩
        have hql : q ≤ 9223372036854775807 := by rw [← hq]; exact ho.len
        have HQ := Lib.hid hq
        rw [hq] at hv3
        subst hv3
        have HO := Lib.hid ho.opl
        have hc4 := hc2.seq hc3
        clear HRD ho hq hc2 hc3 hx3b
        go_wp2_with fail
        go_loopw [5] (fun x wr => ∃ k : Nat, x = .int .i64 k ∧ k ≤ q ∧ Hid (∀ m, m < k → okOf M i (ys.getD m opZero) = true) ∧ Ch nob w2 wr) (fun x _ => q - (intOf x).toNat)
        case atStart => exact ⟨0, rfl, Nat.zero_le _, Lib.hid (fun j hj => by omega), Ch.refl _ _⟩
        case round =>
          obtain ⟨k, rfl, hk, hst2, hc⟩ := hrel
          by_cases hlt2 : k < q
          · have hd2 : decide ((k : Int) < (q : Int)) = true := decide_eq_true (by omega)
            obtain ⟨ad2, rfl, hy0, hy1, hy2⟩ := (HO.out.keep hc).at.2.2 k (by rw [HQ.out]; exact hlt2)
            obtain ⟨x, hx⟩ : ∃ x, ys.getD k opZero = x := ⟨_, rfl⟩
            have HX := Lib.hid (show x ∈ rOf hs i from by rw [HYS.out, ← hx]; exact getD_mem (by rw [HQ.out]; exact hlt2))
            have HBAD := Lib.hid (show okOf M i x = false → sdAll M hs n = false from fun h => HNO.out (by
              rw [HST2.out, ← Bool.not_eq_true, List.all_eq_true]
              intro h2
              have := h2 x (by rw [← HYS.out]; exact HX.out)
              rw [h] at this; cases this))
            have HGOOD := Lib.hid (show okOf M i x = true → Hid (∀ m, m < k + 1 → okOf M i (ys.getD m opZero) = true) from fun h => Lib.hid fun m hm => by
              by_cases e : m = k
              · rw [e, hx]; exact h
              · exact hst2.out m (by omega))
            rw [hx] at hy0 hy1 hy2
            obtain ⟨xw, xk, xv⟩ := x
            dsimp only at hy1 hy2
            clear hx hy0
            cases h0 : (xv == 0) with
            | true =>
              have HT := HGOOD.out (ok_zero (by simpa using h0))
              go_wp2_with fail
              go_roundw
              case rel => exact ⟨k + 1, by go_num, by omega, HT, hc⟩
              case measure => simp [intOf]; omega
            | false =>
              have HNE := Lib.hid (show xv ≠ 0 from by simpa using h0)
              rcases read_by HM.out HMM.out HI.out HX.out with h1 | ⟨f, hf, h2, h3⟩
              · exact absurd h1 HNE.out
              · have HFR : fromOf M ⟨xw, xk, xv⟩ = (f : Int) := by unfold fromOf; rw [if_neg HNE.out, h2]; rfl
                obtain ⟨z, hz⟩ : ∃ z, valR (hs.getD f txrZero).ops xk = z := ⟨_, rfl⟩
                have HOK := Lib.hid (show okOf M i ⟨xw, xk, xv⟩ = ((z == xv) && ((f : Int) != (i : Int))) from by
                  unfold okOf
                  rw [h2, hz]
                  simp [HNE.out])
                have HFF := Lib.hid HFR
                have HZ := Lib.hid hz
                have HFL := Lib.hid hf
                have hfn : f < n := by have := HN.out; omega
                clear h2 h3 HFR hz hf
                have hcw := hc4.seq hc
                have H := Lib.hid (fun (uu : Ext wr) => ext_of (HW.out uu.val i ⟨xw, xk, xv⟩ xk xv (f : Int) (hcw.seq uu.ch) hlt HX.out rfl rfl HNE.out HFF.out))
                have X1 := fun uu : Ext wr => Ext.cell hy1 uu
                have X2 := fun uu : Ext wr => Ext.cell hy2 uu
                go_wp2_with fail
                refine wp_region_ch (w0 := wr) (by kernel_rfl) (by kernel_rfl) (Ch.refl _ _) ?_
                repeat go_big_quiet_step (exact H.out _)
                refine wpQuiet_nil ?_
                rintro wq ⟨⟨_, hcq⟩, rfl⟩
                have hc5 := hc.seq hcq
                have hcz := hcw.seq hcq
                have hY1 := cell_keep hy1 hcq
                have hY2 := cell_keep hy2 hcq
                clear X1 X2 H hy1 hy2 hc hcw hcq
                go_wp2_with fail
                cases he : ((f : Int) == (i : Int)) with
                | true =>
                  have HF := Lib.hid (HBAD.out (by rw [HOK.out, bne, he]; simp))
                  refine wp_region_ch (w0 := _) (by kernel_rfl) (by kernel_rfl) (Ch.refl _ _) ?_
                  repeat go_big_quiet_step (fail)
                  refine wpQuiet_nil ?_
                  rintro wp ⟨⟨_, hcp⟩, rfl⟩
                  have hc6 := hcz.seq hcp
                  go_wp2_with fail
                  go_ret
                  exact ⟨ret_bool HF.out.symm, hc6⟩
                | false =>
                  obtain ⟨ad9, u9, had9, hf0, hf1, hf2, hf3, hfu⟩ := HV.out.both hcz f HFL.out
                  obtain rfl := Option.some.inj had9
                  obtain ⟨T, hT⟩ : ∃ T, hs.getD f txrZero = T := ⟨_, rfl⟩
                  have hfl := may_len HM.out HFL.out
                  have HZ2 := Lib.hid HZ.out
                  rw [hT] at hf0 hf1 hf2 hfu hfl HZ2
                  obtain ⟨ts, tb, tc, zs⟩ := T
                  dsimp only at hf0 hf1 hf2 hfu hfl HZ2
                  obtain ⟨A7, c7, rfl⟩ := hfu.shape
                  obtain ⟨l7, hl7⟩ : ∃ l, zs.length = l := ⟨_, rfl⟩
                  rw [hl7] at hf3 hfu
                  have HLS := Lib.hid (fun (uu : Ext wq) => ext_of (last_of uu.val (.slice A7 l7 c7) zs ts tb tc xk xv z HZ2.out (hfu.keep (hcz.seq uu.ch)) hfl))
                  have X0 := fun uu : Ext wq => Ext.cell hf0 uu
                  have X1 := fun uu : Ext wq => Ext.cell hf1 uu
                  have X2 := fun uu : Ext wq => Ext.cell hf2 uu
                  have X3 := fun uu : Ext wq => Ext.cell hf3 uu
                  have X4 := fun uu : Ext wq => Ext.cell hY1 uu
                  have X5 := fun uu : Ext wq => Ext.cell hY2 uu
                  clear had9 hT hl7 hfu hfl
                  refine wp_region_ch (w0 := wq) (by kernel_rfl) (by kernel_rfl) (Ch.refl _ _) ?_
                  repeat go_big_quiet_step (exact HLS.out _)
                  refine wpQuiet_nil ?_
                  rintro wp ⟨⟨_, hcp⟩, rfl⟩
                  have hc6 := hcz.seq hcp
                  have hc7 := hc5.seq hcp
                  clear X0 X1 X2 X3 X4 X5 HLS hf0 hf1 hf2 hf3 hY1 hY2 hc5 hcz hcp
                  cases hz3 : (z == xv) with
                  | false =>
                    have HF := Lib.hid (HBAD.out (by rw [HOK.out, hz3, Bool.false_and]))
                    simp only [Bool.not_false]
                    go_wp2_with fail
                    go_ret
                    exact ⟨ret_bool HF.out.symm, hc6⟩
                  | true =>
                    have HT := HGOOD.out (by rw [HOK.out, hz3, bne, he]; rfl)
                    simp only [Bool.not_true]
                    go_wp2_with fail
                    go_roundw
                    case rel => exact ⟨k + 1, by go_num, by omega, HT, hc7⟩
                    case measure => simp [intOf]; omega
          · have hd2 : decide ((k : Int) < (q : Int)) = false := decide_eq_false (by omega)
            obtain rfl : k = q := by omega
            have HT : Hid (∀ j, j < i + 1 → soundAt M hs j = true) := Lib.hid fun j hj => by
              by_cases e : j = i
              · rw [e, HST2.out, List.all_eq_true]
                intro x hx
                obtain ⟨m, hm1, hm2⟩ := mem_getD hx
                rw [← hm2]
                exact hst2.out m (by rw [← HQ.out]; exact hm1)
              · exact hst.out j (by omega)
            have hc8 := hc4.seq hc
            go_wp2_with fail
            go_roundw
            case rel => exact ⟨i + 1, by go_num, by omega, HT, hc8⟩
            case measure => simp [intOf]; omega
    · have hd : decide ((i : Int) < (n : Int)) = false := decide_eq_false (by omega)
      obtain rfl : i = n := by omega
      have HF := Lib.hid (show sdAll M hs i = true from by rw [← HN.out, HSD.out]; exact all_yes (by rw [HN.out]; exact hst.out))
      go_wp2_with fail
      go_ret
      exact ⟨ret_bool HF.out.symm, hc⟩
end Go.Proofs.YtlhfpnkfapghoaaDoor
end
