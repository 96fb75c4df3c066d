/- Regions that draw their order and whose operations make memory, in any order: each operation yields a value of which something holds that no later operation of the region undoes. No condition. -/
import Derived.Test.YtobfanodjdkkoaaDoorCh
set_option linter.unusedVariables false
set_option linter.unusedSimpArgs false
namespace Go.Proofs.YtobfanodjdkkoaaDoor
open Go.RowKit

section
variable {P : Program} {Q : Exit → Act → World → Prop}
theorem wp_over {o : Oper} {a : Act} {w : World} {K : Act → World → Prop} (h : o.wp P a w K (Exit.then K Q)) : o.wp P a w K Q := by
  unfold Oper.wp at *
  generalize (execOp a.eval o).run P w = r at *
  cases r with
  | ok n w' =>
    cases n <;> simp only [Oper.upon] at h ⊢ <;>
      first
        | exact h
        | exact Calls.mono h (fun e w'' he => by cases e <;> exact he)
  | halt x w' => cases x <;> simp only [Oper.upon] at h ⊢ <;> exact h
/-- One operation, as a list of its own. -/
theorem wpOp_of_list {ops : Array Oper} {i : Nat} {o : Oper} {a : Act} {w : World} {K : Act → World → Prop} (hi : ops[i]? = some o) (h : wpList P ops (Exit.then K Q) [o] a w) : wpOp P ops Q i K a w := by
  unfold wpOp
  rw [hi]
  unfold wpList at h
  have e : wpList P ops (Exit.then K Q) [] = K := by funext a w; rfl
  rw [e] at h
  dsimp only
  split at h
  · rename_i hw
    rw [if_pos hw]
    rcases h with h | ⟨h1, h2⟩
    · exact .inl (wp_over h)
    · exact .inr ⟨h1, h2⟩
  · rename_i hw
    rw [if_neg hw]
    exact h
/-- All that the operations yield, put in their slots. -/
def putAll (vals : Nat → Value) : Nat → List Oper → Act → Act
  | _, [], a => a
  | k, o :: l, a => putAll vals (k + 1) l (a.put o.dst (vals k))
/-- No slot twice. -/
def dstOnce : List Oper → Bool
  | [] => true
  | o :: l => (match o.dst with | some s => l.all fun p => p.dst != some s | none => true) && dstOnce l
def dstIn (n : Nat) (l : List Oper) : Bool := l.all fun o => match o.dst with | some s => decide (s < n) | none => true
/-- What an operation waits for stands ahead of it. -/
def backB : Nat → List Oper → Bool
  | _, [] => true
  | k, o :: l => o.after.all (fun e => decide (e.on < k)) && backB (k + 1) l
theorem dst_one : ∀ {l : List Oper}, dstOnce l = true → ∀ {i j : Nat} {p q : Oper} {s : Nat}, l[i]? = some p → l[j]? = some q → p.dst = some s → q.dst = some s → i = j
  | [], _, i, j, p, q, s, hi, _, _, _ => by simp at hi
  | o :: l, h, i, j, p, q, s, hi, hj, hp, hq => by
    simp only [dstOnce, Bool.and_eq_true] at h
    have key : ∀ {m : Nat} {r : Oper}, o.dst = some s → l[m]? = some r → r.dst = some s → False := fun {m r} ho hm hr => by
      have h1 := h.1
      rw [ho] at h1
      simp only [List.all_eq_true] at h1
      have := h1 r (List.mem_of_getElem? hm)
      rw [hr] at this
      simp at this
    cases i with
    | zero =>
      cases j with
      | zero => rfl
      | succ j =>
        simp at hi hj
        subst hi
        exact (key hp hj hq).elim
    | succ i =>
      cases j with
      | zero =>
        simp at hi hj
        subst hj
        exact (key hq hi hp).elim
      | succ j =>
        simp at hi hj
        rw [dst_one h.2 hi hj hp hq]
theorem back_of : ∀ {l : List Oper} {k : Nat}, backB k l = true → ∀ {i : Nat} {o : Oper}, l[i]? = some o → ∀ e ∈ o.after, e.on < k + i
  | [], _, _, i, o, hi, _, _ => by simp at hi
  | p :: l, k, h, i, o, hi, e, he => by
    simp only [backB, Bool.and_eq_true, Array.all_eq_true_iff_forall_mem, decide_eq_true_eq] at h
    cases i with
    | zero =>
      simp at hi
      subst hi
      exact h.1 e he
    | succ i =>
      simp at hi
      have := back_of h.2 hi e he
      omega
theorem putAll_defers (vals : Nat → Value) : ∀ (l : List Oper) (k : Nat) (a : Act), (putAll vals k l a).defers = a.defers
  | [], _, _ => rfl
  | o :: l, k, a => by
    unfold putAll
    rw [putAll_defers vals l]
    unfold Act.put
    split <;> rfl
theorem put_size (a : Act) (d : Option Tmp) (v : Value) : (a.put d v).tmps.size = a.tmps.size := by
  unfold Act.put
  split <;> simp
theorem putAll_size (vals : Nat → Value) : ∀ (l : List Oper) (k : Nat) (a : Act), (putAll vals k l a).tmps.size = a.tmps.size
  | [], _, _ => rfl
  | o :: l, k, a => by
    unfold putAll
    rw [putAll_size vals l, put_size]
theorem put_other {a : Act} {d : Option Tmp} {v : Value} {s : Nat} (h : d ≠ some s) : (a.put d v).tmps[s]? = a.tmps[s]? := by
  unfold Act.put
  split
  · rename_i t
    have : t ≠ s := fun e => h (by rw [e])
    simp [Array.getElem?_setIfInBounds_ne this]
  · rfl
theorem put_same {a : Act} {v : Value} {s : Nat} (h : s < a.tmps.size) : (a.put (some s) v).tmps[s]? = some v := by
  unfold Act.put
  simp [h]
theorem putAll_other (vals : Nat → Value) : ∀ (l : List Oper) (k : Nat) (a : Act) (s : Nat), (∀ o ∈ l, o.dst ≠ some s) → (putAll vals k l a).tmps[s]? = a.tmps[s]?
  | [], _, _, _, _ => rfl
  | o :: l, k, a, s, h => by
    unfold putAll
    rw [putAll_other vals l (k + 1) _ s (fun p hp => h p (List.mem_cons_of_mem _ hp)), put_other (h o (List.mem_cons_self ..))]
theorem putAll_at (vals : Nat → Value) : ∀ (l : List Oper) (k : Nat) (a : Act) (s i : Nat) (o : Oper), dstOnce l = true → l[i]? = some o → o.dst = some s → s < a.tmps.size → (putAll vals k l a).tmps[s]? = some (vals (k + i))
  | [], _, _, _, i, _, _, hi, _, _ => by simp at hi
  | p :: l, k, a, s, i, o, hd, hi, ho, hs => by
    unfold putAll
    have hd2 := hd
    simp only [dstOnce, Bool.and_eq_true] at hd
    cases i with
    | zero =>
      simp at hi
      subst hi
      rw [putAll_other vals l (k + 1) _ s, ho, put_same hs]
      · rfl
      · intro q hq e
        have h1 := hd.1
        rw [ho] at h1
        simp only [List.all_eq_true] at h1
        have := h1 q hq
        rw [e] at this
        simp at this
    | succ i =>
      simp at hi
      rw [putAll_at vals l (k + 1) _ s i o hd.2 hi ho (by rw [put_size]; exact hs)]
      rw [show k + 1 + i = k + (i + 1) by omega]

/-- How far the region has come. -/
structure YInv (l : List Oper) (R : Nat → Value → World → Prop) (w0 : World) (a0 : Act) (listed : Array Bool) (a : Act) (w : World) : Prop where
  lsz : listed.size = l.length
  ch : Ch nob w0 w
  defs : a.defers = a0.defers
  size : a.tmps.size = a0.tmps.size
  old : ∀ s, (∀ i o, l[i]? = some o → listed.getD i false = true → o.dst ≠ some s) → a.tmps[s]? = a0.tmps[s]?
  val : ∀ i o s, l[i]? = some o → listed.getD i false = true → o.dst = some s → ∃ v, a.tmps[s]? = some v ∧ R i v w
/-- What an operation may lean on. -/
structure YKnow (l : List Oper) (R : Nat → Value → World → Prop) (w0 : World) (a0 : Act) (o : Oper) (a : Act) (w : World) : Prop where
  ch : Ch nob w0 w
  old : ∀ s, (∀ p ∈ l, p.dst ≠ some s) → a.tmps[s]? = a0.tmps[s]?
  val : ∀ e ∈ o.after, Region.binds .any e = true → ∀ p s, l[e.on]? = some p → p.dst = some s → ∃ v, a.tmps[s]? = some v ∧ R e.on v w
theorem wp_region_yield {id : Nat} {a0 : Act} {w0 : World} {l : List Oper} (R : Nat → Value → World → Prop) (hm : P.follows .mixedOrders = true) (hd : dstOnce l = true) (hz : dstIn a0.tmps.size l = true) (hb : backB 0 l = true)
    (stable : ∀ i v w w', R i v w → Ch nob w w' → R i v w')
    (step : ∀ i o, l[i]? = some o → ∀ a w, YKnow l R w0 a0 o a w → ∀ K : Act → World → Prop, (∀ v w', R i v w' → Ch nob w w' → K (a.put o.dst v) w') → wpList P l.toArray (Exit.then K Q) [o] a w)
    (done : ∀ vals w', (∀ i o s, l[i]? = some o → o.dst = some s → R i (vals i) w') → Ch nob w0 w' → Q .normal (putAll vals 0 l a0) w') : (Code.region id l.toArray true).wp P Q a0 w0 := by
  refine wp_region_any hm ?_
  have hfin : ∀ listed a w, YInv l R w0 a0 listed a w → (∀ i, i < l.length → listed.getD i false = true) → Q .normal a w := fun listed a w inv hall => by
    have hval : ∀ i : Nat, ∃ v : Value, ∀ (o : Oper) (s : Tmp), l[i]? = some o → o.dst = some s → a.tmps[s]? = some v ∧ R i v w := fun i => by
      cases hi : l[i]? with
      | none => exact ⟨undef, fun o s h => by cases h⟩
      | some o =>
        cases ho : o.dst with
        | none => exact ⟨undef, fun p s h h2 => by cases h; rw [ho] at h2; cases h2⟩
        | some s =>
          obtain ⟨v, h1, h2⟩ := inv.val i o s hi (hall i (List.getElem?_eq_some_iff.1 hi).1) ho
          exact ⟨v, fun p s' h h3 => by cases h; rw [ho] at h3; cases h3; exact ⟨h1, h2⟩⟩
    obtain ⟨vals, hvals⟩ : ∃ vals : Nat → Value, ∀ (i : Nat) (o : Oper) (s : Tmp), l[i]? = some o → o.dst = some s → a.tmps[s]? = some (vals i) ∧ R i (vals i) w := ⟨fun i => Classical.choose (hval i), fun i => Classical.choose_spec (hval i)⟩
    have e : a = putAll vals 0 l a0 := by
      have ht : a.tmps = (putAll vals 0 l a0).tmps := by
        apply Array.ext_getElem?
        intro s
        by_cases hs : ∃ (i : Nat) (o : Oper), l[i]? = some o ∧ o.dst = some s
        · obtain ⟨i, o, h1, h2⟩ := hs
          have h3 : s < a0.tmps.size := by
            unfold dstIn at hz
            rw [List.all_eq_true] at hz
            have := hz o (List.mem_of_getElem? h1)
            rw [h2] at this
            simpa using this
          rw [(hvals i o s h1 h2).1, putAll_at vals l 0 a0 s i o hd h1 h2 h3, Nat.zero_add]
        · have hno : ∀ o : Oper, o ∈ l → o.dst ≠ some s := fun o ho e => hs (by
            obtain ⟨i, hi⟩ := List.getElem?_of_mem ho
            exact ⟨i, o, hi, e⟩)
          rw [putAll_other vals l 0 a0 s hno]
          exact inv.old s (fun i o hi _ => hno o (List.mem_of_getElem? hi))
      have hdf : a.defers = (putAll vals 0 l a0).defers := by rw [putAll_defers]; exact inv.defs
      obtain ⟨t1, d1⟩ := a
      cases hp : putAll vals 0 l a0 with
      | mk t2 d2 =>
        rw [hp] at ht hdf
        simp only at ht hdf
        rw [ht, hdf]
    rw [e]
    exact done vals w (fun i o s h1 h2 => (hvals i o s h1 h2).2) inv.ch
  have hready : ∀ listed a w, YInv l R w0 a0 listed a w → Region.ready .any l.toArray listed = [] → ∀ i, i < l.length → listed.getD i false = true := fun listed a w inv hr => by
    intro i
    induction i using Nat.strongRecOn with
    | ind i ih =>
      intro hi
      cases hl : listed.getD i false with
      | true => rfl
      | false =>
        exfalso
        have hi2 : l[i]? = some l[i] := List.getElem?_eq_getElem hi
        have : i ∈ Region.ready .any l.toArray listed := mem_ready.2 ⟨by
          rw [Array.getD_eq_getD_getElem?, Array.getElem?_eq_getElem (by rw [inv.lsz]; exact hi)] at hl ⊢
          exact hl, l[i], by simp, fun e he _ => ih e.on (by have := back_of hb hi2 e he; omega) (by have := back_of hb hi2 e he; omega)⟩
        rw [hr] at this
        cases this
  have main : ∀ fuel listed a w, YInv l R w0 a0 listed a w → listed.count false ≤ fuel → wpAny P .any l.toArray Q fuel listed a w := by
    intro fuel
    induction fuel with
    | zero =>
      intro listed a w inv hc
      have hall : ∀ i, i < l.length → listed.getD i false = true := fun i hi => by
        cases hl : listed.getD i false with
        | true => rfl
        | false =>
          exfalso
          have h1 : false ∈ listed := by
            rw [Array.getD_eq_getD_getElem?, Array.getElem?_eq_getElem (by rw [inv.lsz]; exact hi), Option.getD_some] at hl
            rw [← hl]; exact Array.getElem_mem _
          have := Array.count_pos_iff.2 h1
          omega
      refine ⟨?_, hfin listed a w inv hall⟩
      apply List.eq_nil_iff_forall_not_mem.2
      intro j hj
      obtain ⟨h1, o, h2, _⟩ := mem_ready.1 hj
      have hj2 : j < l.length := by
        have := (Array.getElem?_eq_some_iff.1 h2).1
        simpa using this
      have := hall j hj2
      rw [Array.getD_eq_getD_getElem?, Array.getElem?_eq_getElem (by rw [inv.lsz]; exact hj2)] at h1 this
      simp at h1 this
      rw [h1] at this
      cases this
    | succ fuel ih =>
      intro listed a w inv hc
      refine ⟨fun hr => hfin listed a w inv (hready listed a w inv hr), fun i hi => ?_⟩
      obtain ⟨h1, o, h2, h3⟩ := mem_ready.1 hi
      have h2' : l[i]? = some o := by simpa using h2
      have hil : i < l.length := (List.getElem?_eq_some_iff.1 h2').1
      have hlt : i < listed.size := by rw [inv.lsz]; exact hil
      have hcur : listed[i] = false := by
        rw [Array.getD_eq_getD_getElem?, Array.getElem?_eq_getElem hlt] at h1
        exact h1
      refine wpOp_of_list h2 (step i o h2' a w ⟨inv.ch, fun s hs => inv.old s (fun j p hj _ => hs p (List.mem_of_getElem? hj)), fun e he hbd p s hp hs => inv.val e.on p s hp (h3 e he hbd) hs⟩ _ (fun v w' hv hcw => ?_))
      have gset : ∀ j, (listed.setIfInBounds i true).getD j false = true → j = i ∨ listed.getD j false = true := fun j hj => by
        by_cases e : i = j
        · exact .inl e.symm
        · rw [getD_set_ne false e] at hj; exact .inr hj
      have hsz : ∀ s, o.dst = some s → s < a.tmps.size := fun s hs => by
        rw [inv.size]
        unfold dstIn at hz
        rw [List.all_eq_true] at hz
        have := hz o (List.mem_of_getElem? h2')
        rw [hs] at this
        simpa using this
      refine ih _ _ _ ⟨by simpa using inv.lsz, inv.ch.seq hcw, ?_, by rw [put_size]; exact inv.size, fun s hs => ?_, fun j p s hj hlj hp => ?_⟩ ?_
      · have : (a.put o.dst v).defers = a.defers := by unfold Act.put; split <;> rfl
        rw [this]; exact inv.defs
      · rw [put_other (hs i o h2' (by simp [hlt]))]
        refine inv.old s (fun j p hj hlj => hs j p hj (getD_set_true hlj))
      · by_cases e : j = i
        · subst e
          rw [h2'] at hj
          cases hj
          rw [hp]
          exact ⟨v, put_same (hsz s hp), hv⟩
        · have hne : o.dst ≠ some s := fun e2 => e (dst_one hd hj h2' hp e2)
          rw [put_other hne]
          obtain ⟨u, hu1, hu2⟩ := inv.val j p s hj ((gset j hlj).resolve_left e) hp
          exact ⟨u, hu1, stable _ _ _ _ hu2 hcw⟩
      · have hcs := Array.count_set (a := true) (b := false) (xs := listed) (i := i) hlt
        rw [show listed.setIfInBounds i true = listed.set i true hlt from by simp [Array.setIfInBounds, hlt]]
        rw [hcs, hcur]
        simp
        omega
  have inv0 : YInv l R w0 a0 (Array.replicate l.toArray.size false) a0 { w0 with drawn := w0.drawn + 1 } := by
    have hno : ∀ i, (Array.replicate l.toArray.size false).getD i false = false := fun i => by
      rw [Array.getD_eq_getD_getElem?]
      by_cases h : i < l.toArray.size
      · simp only [Array.getElem?_replicate]; split <;> rfl
      · simp only [Array.getElem?_replicate]; split <;> rfl
    exact ⟨by simp, (Ch.refl nob w0).drew, rfl, rfl, fun s _ => rfl, fun i o s _ h => by rw [hno] at h; cases h⟩
  refine main l.toArray.size _ _ _ inv0 ?_
  simp [Array.count_replicate]
/-! ### For operations that change old things -/
/-- How far the region has come. -/
structure ZInv (l : List Oper) (R : Nat → Value → World → Prop) (Pre : Nat → World → Prop) (a0 : Act) (listed : Array Bool) (a : Act) (w : World) : Prop where
  lsz : listed.size = l.length
  pre : ∀ i, listed.getD i false = false → Pre i w
  defs : a.defers = a0.defers
  size : a.tmps.size = a0.tmps.size
  old : ∀ s, (∀ i o, l[i]? = some o → listed.getD i false = true → o.dst ≠ some s) → a.tmps[s]? = a0.tmps[s]?
  val : ∀ i o s, l[i]? = some o → listed.getD i false = true → o.dst = some s → ∃ v, a.tmps[s]? = some v ∧ R i v w
/-- What an operation may lean on. -/
structure ZKnow (l : List Oper) (R : Nat → Value → World → Prop) (a0 : Act) (o : Oper) (a : Act) (w : World) : Prop where
  old : ∀ s, (∀ p ∈ l, p.dst ≠ some s) → a.tmps[s]? = a0.tmps[s]?
  val : ∀ e ∈ o.after, Region.binds .any e = true → ∀ p s, l[e.on]? = some p → p.dst = some s → ∃ v, a.tmps[s]? = some v ∧ R e.on v w
/-- As wp_region_yield, for operations that change old things too: of each, what it needs of the world (Pre), and what it may change (E): no other one's value, nor need, may lean on that. -/
theorem wp_region_yield2 {id : Nat} {a0 : Act} {w0 : World} {l : List Oper} (R : Nat → Value → World → Prop) (Pre : Nat → World → Prop) (E : Nat → World → World → Prop) (hm : P.follows .mixedOrders = true) (hd : dstOnce l = true) (hz : dstIn a0.tmps.size l = true) (hb : backB 0 l = true)
    (stable : ∀ i j v w w', i ≠ j → R i v w → E j w w' → R i v w') (keeps : ∀ i j w w', i ≠ j → Pre i w → E j w w' → Pre i w') (start : ∀ i, Pre i w0.drew)
    (step : ∀ i o, l[i]? = some o → ∀ a w, Pre i w → ZKnow l R a0 o a w → ∀ K : Act → World → Prop, (∀ v w', R i v w' → E i w w' → K (a.put o.dst v) w') → wpList P l.toArray (Exit.then K Q) [o] a w)
    (done : ∀ vals w', (∀ i o s, l[i]? = some o → o.dst = some s → R i (vals i) w') → Q .normal (putAll vals 0 l a0) w') : (Code.region id l.toArray true).wp P Q a0 w0 := by
  refine wp_region_any hm ?_
  have hfin : ∀ listed a w, ZInv l R Pre a0 listed a w → (∀ i, i < l.length → listed.getD i false = true) → Q .normal a w := fun listed a w inv hall => by
    have hval : ∀ i : Nat, ∃ v : Value, ∀ (o : Oper) (s : Tmp), l[i]? = some o → o.dst = some s → a.tmps[s]? = some v ∧ R i v w := fun i => by
      cases hi : l[i]? with
      | none => exact ⟨undef, fun o s h => by cases h⟩
      | some o =>
        cases ho : o.dst with
        | none => exact ⟨undef, fun p s h h2 => by cases h; rw [ho] at h2; cases h2⟩
        | some s =>
          obtain ⟨v, h1, h2⟩ := inv.val i o s hi (hall i (List.getElem?_eq_some_iff.1 hi).1) ho
          exact ⟨v, fun p s' h h3 => by cases h; rw [ho] at h3; cases h3; exact ⟨h1, h2⟩⟩
    obtain ⟨vals, hvals⟩ : ∃ vals : Nat → Value, ∀ (i : Nat) (o : Oper) (s : Tmp), l[i]? = some o → o.dst = some s → a.tmps[s]? = some (vals i) ∧ R i (vals i) w := ⟨fun i => Classical.choose (hval i), fun i => Classical.choose_spec (hval i)⟩
    have e : a = putAll vals 0 l a0 := by
      have ht : a.tmps = (putAll vals 0 l a0).tmps := by
        apply Array.ext_getElem?
        intro s
        by_cases hs : ∃ (i : Nat) (o : Oper), l[i]? = some o ∧ o.dst = some s
        · obtain ⟨i, o, h1, h2⟩ := hs
          have h3 : s < a0.tmps.size := by
            unfold dstIn at hz
            rw [List.all_eq_true] at hz
            have := hz o (List.mem_of_getElem? h1)
            rw [h2] at this
            simpa using this
          rw [(hvals i o s h1 h2).1, putAll_at vals l 0 a0 s i o hd h1 h2 h3, Nat.zero_add]
        · have hno : ∀ o : Oper, o ∈ l → o.dst ≠ some s := fun o ho e => hs (by
            obtain ⟨i, hi⟩ := List.getElem?_of_mem ho
            exact ⟨i, o, hi, e⟩)
          rw [putAll_other vals l 0 a0 s hno]
          exact inv.old s (fun i o hi _ => hno o (List.mem_of_getElem? hi))
      have hdf : a.defers = (putAll vals 0 l a0).defers := by rw [putAll_defers]; exact inv.defs
      obtain ⟨t1, d1⟩ := a
      cases hp : putAll vals 0 l a0 with
      | mk t2 d2 =>
        rw [hp] at ht hdf
        simp only at ht hdf
        rw [ht, hdf]
    rw [e]
    exact done vals w (fun i o s h1 h2 => (hvals i o s h1 h2).2)
  have hready : ∀ listed a w, ZInv l R Pre a0 listed a w → Region.ready .any l.toArray listed = [] → ∀ i, i < l.length → listed.getD i false = true := fun listed a w inv hr => by
    intro i
    induction i using Nat.strongRecOn with
    | ind i ih =>
      intro hi
      cases hl : listed.getD i false with
      | true => rfl
      | false =>
        exfalso
        have hi2 : l[i]? = some l[i] := List.getElem?_eq_getElem hi
        have : i ∈ Region.ready .any l.toArray listed := mem_ready.2 ⟨by
          rw [Array.getD_eq_getD_getElem?, Array.getElem?_eq_getElem (by rw [inv.lsz]; exact hi)] at hl ⊢
          exact hl, l[i], by simp, fun e he _ => ih e.on (by have := back_of hb hi2 e he; omega) (by have := back_of hb hi2 e he; omega)⟩
        rw [hr] at this
        cases this
  have main : ∀ fuel listed a w, ZInv l R Pre a0 listed a w → listed.count false ≤ fuel → wpAny P .any l.toArray Q fuel listed a w := by
    intro fuel
    induction fuel with
    | zero =>
      intro listed a w inv hc
      have hall : ∀ i, i < l.length → listed.getD i false = true := fun i hi => by
        cases hl : listed.getD i false with
        | true => rfl
        | false =>
          exfalso
          have h1 : false ∈ listed := by
            rw [Array.getD_eq_getD_getElem?, Array.getElem?_eq_getElem (by rw [inv.lsz]; exact hi), Option.getD_some] at hl
            rw [← hl]; exact Array.getElem_mem _
          have := Array.count_pos_iff.2 h1
          omega
      refine ⟨?_, hfin listed a w inv hall⟩
      apply List.eq_nil_iff_forall_not_mem.2
      intro j hj
      obtain ⟨h1, o, h2, _⟩ := mem_ready.1 hj
      have hj2 : j < l.length := by
        have := (Array.getElem?_eq_some_iff.1 h2).1
        simpa using this
      have := hall j hj2
      rw [Array.getD_eq_getD_getElem?, Array.getElem?_eq_getElem (by rw [inv.lsz]; exact hj2)] at h1 this
      simp at h1 this
      rw [h1] at this
      cases this
    | succ fuel ih =>
      intro listed a w inv hc
      refine ⟨fun hr => hfin listed a w inv (hready listed a w inv hr), fun i hi => ?_⟩
      obtain ⟨h1, o, h2, h3⟩ := mem_ready.1 hi
      have h2' : l[i]? = some o := by simpa using h2
      have hil : i < l.length := (List.getElem?_eq_some_iff.1 h2').1
      have hlt : i < listed.size := by rw [inv.lsz]; exact hil
      have hcur : listed[i] = false := by
        rw [Array.getD_eq_getD_getElem?, Array.getElem?_eq_getElem hlt] at h1
        exact h1
      refine wpOp_of_list h2 (step i o h2' a w (inv.pre i (by rw [Array.getD_eq_getD_getElem?, Array.getElem?_eq_getElem hlt]; exact hcur)) ⟨fun s hs => inv.old s (fun j p hj _ => hs p (List.mem_of_getElem? hj)), fun e he hbd p s hp hs => inv.val e.on p s hp (h3 e he hbd) hs⟩ _ (fun v w' hv hcw => ?_))
      have gset : ∀ j, (listed.setIfInBounds i true).getD j false = true → j = i ∨ listed.getD j false = true := fun j hj => by
        by_cases e : i = j
        · exact .inl e.symm
        · rw [getD_set_ne false e] at hj; exact .inr hj
      have hsz : ∀ s, o.dst = some s → s < a.tmps.size := fun s hs => by
        rw [inv.size]
        unfold dstIn at hz
        rw [List.all_eq_true] at hz
        have := hz o (List.mem_of_getElem? h2')
        rw [hs] at this
        simpa using this
      refine ih _ _ _ ⟨by simpa using inv.lsz, fun j hj => ?_, ?_, by rw [put_size]; exact inv.size, fun s hs => ?_, fun j p s hj hlj hp => ?_⟩ ?_
      · have hne : j ≠ i := fun e => by
          rw [e] at hj
          simp [hlt] at hj
        rw [getD_set_ne false (Ne.symm hne)] at hj
        exact keeps _ _ _ _ hne (inv.pre j hj) hcw
      · have : (a.put o.dst v).defers = a.defers := by unfold Act.put; split <;> rfl
        rw [this]; exact inv.defs
      · rw [put_other (hs i o h2' (by simp [hlt]))]
        refine inv.old s (fun j p hj hlj => hs j p hj (getD_set_true hlj))
      · by_cases e : j = i
        · subst e
          rw [h2'] at hj
          cases hj
          rw [hp]
          exact ⟨v, put_same (hsz s hp), hv⟩
        · have hne : o.dst ≠ some s := fun e2 => e (dst_one hd hj h2' hp e2)
          rw [put_other hne]
          obtain ⟨u, hu1, hu2⟩ := inv.val j p s hj ((gset j hlj).resolve_left e) hp
          exact ⟨u, hu1, stable _ _ _ _ _ e hu2 hcw⟩
      · have hcs := Array.count_set (a := true) (b := false) (xs := listed) (i := i) hlt
        rw [show listed.setIfInBounds i true = listed.set i true hlt from by simp [Array.setIfInBounds, hlt]]
        rw [hcs, hcur]
        simp
        omega
  have inv0 : ZInv l R Pre a0 (Array.replicate l.toArray.size false) a0 w0.drew := by
    have hno : ∀ i, (Array.replicate l.toArray.size false).getD i false = false := fun i => by
      rw [Array.getD_eq_getD_getElem?]
      by_cases h : i < l.toArray.size
      · simp only [Array.getElem?_replicate]; split <;> rfl
      · simp only [Array.getElem?_replicate]; split <;> rfl
    exact ⟨by simp, fun i _ => start i, rfl, rfl, fun s _ => rfl, fun i o s _ h => by rw [hno] at h; cases h⟩
  refine main l.toArray.size _ _ _ inv0 ?_
  simp [Array.count_replicate]
end
end Go.Proofs.YtobfanodjdkkoaaDoor
