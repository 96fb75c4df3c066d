/- Regions that draw their order, and whose last operation waits for all the others. No condition. -/
import Derived.Test.YtobfanodjdkkoaaDoorYield
set_option linter.unusedVariables false
set_option linter.unusedSimpArgs false
namespace Go.Proofs.YtobfanodjdkkoaaDoor
open Go.RowKit

section
variable {P : Program} {Q : Exit → Act → World → Prop}
/-- How far the region has come. -/
structure VInv (l : List Oper) (R : Nat → Value → World → Prop) (Pre : Nat → World → Prop) (m : Nat) (POST : Act → World → Prop) (a0 : Act) (listed : Array Bool) (a : Act) (w : World) : Prop where
  lsz : listed.size = l.length
  pre : ∀ i, listed.getD i false = false → Pre i w
  defs : a.defers = a0.defers
  size : a.tmps.size = a0.tmps.size
  old : ∀ s, (∀ i o, l[i]? = some o → listed.getD i false = true → o.dst ≠ some s) → a.tmps[s]? = a0.tmps[s]?
  val : ∀ i o s, l[i]? = some o → listed.getD i false = true → o.dst = some s → ∃ v, a.tmps[s]? = some v ∧ R i v w
  fin : listed.getD m false = true → (∀ i, i < l.length → listed.getD i false = true) ∧ POST a w
/-- What an operation may lean on. -/
structure VKnow (l : List Oper) (R : Nat → Value → World → Prop) (a0 : Act) (o : Oper) (a : Act) (w : World) : Prop where
  old : ∀ s, (∀ p ∈ l, p.dst ≠ some s) → a.tmps[s]? = a0.tmps[s]?
  val : ∀ e ∈ o.after, Region.binds .any e = true → ∀ p s, l[e.on]? = some p → p.dst = some s → ∃ v, a.tmps[s]? = some v ∧ R e.on v w
/-- As wp_region_yield2; the m-th operation waits for all the others, and POST holds behind it. -/
theorem wp_region_last {id : Nat} {a0 : Act} {w0 : World} {l : List Oper} (R : Nat → Value → World → Prop) (Pre : Nat → World → Prop) (E : Nat → World → World → Prop) (m : Nat) (POST : Act → World → Prop) (hml : m < l.length) (hlast : ∀ o, l[m]? = some o → ∀ i, i < l.length → i ≠ m → ∃ e ∈ o.after, e.on = i ∧ Region.binds .any e = true) (hm : P.follows .mixedOrders = true) (hd : dstOnce l = true) (hz : dstIn a0.tmps.size l = true) (hb : backB 0 l = true)
    (stable : ∀ i j v w w', i ≠ j → R i v w → E j w w' → R i v w') (keeps : ∀ i j w w', i ≠ j → Pre i w → E j w w' → Pre i w') (start : ∀ i, Pre i w0.drew)
    (step : ∀ i o, i ≠ m → l[i]? = some o → ∀ a w, Pre i w → VKnow l R a0 o a w → ∀ K : Act → World → Prop, (∀ v w', R i v w' → E i w w' → K (a.put o.dst v) w') → wpList P l.toArray (Exit.then K Q) [o] a w)
    (last : ∀ o, l[m]? = some o → ∀ a w, Pre m w → VKnow l R a0 o a w → ∀ K : Act → World → Prop, (∀ v w', R m v w' → E m w w' → POST (a.put o.dst v) w' → K (a.put o.dst v) w') → wpList P l.toArray (Exit.then K Q) [o] a w)
    (done : ∀ vals w', (∀ i o s, l[i]? = some o → o.dst = some s → R i (vals i) w') → POST (putAll vals 0 l a0) w' → Q .normal (putAll vals 0 l a0) w') : (Code.region id l.toArray true).wp P Q a0 w0 := by
  refine wp_region_any hm ?_
  have hfin : ∀ listed a w, VInv l R Pre m POST a0 listed a w → (∀ i, i < l.length → listed.getD i false = true) → Q .normal a w := fun listed a w inv hall => by
    have hval : ∀ i : Nat, ∃ v : Value, ∀ (o : Oper) (s : Tmp), l[i]? = some o → o.dst = some s → a.tmps[s]? = some v ∧ R i v w := fun i => by
      cases hi : l[i]? with
      | none => exact ⟨undef, fun o s h => by cases h⟩
      | some o =>
        cases ho : o.dst with
        | none => exact ⟨undef, fun p s h h2 => by cases h; rw [ho] at h2; cases h2⟩
        | some s =>
          obtain ⟨v, h1, h2⟩ := inv.val i o s hi (hall i (List.getElem?_eq_some_iff.1 hi).1) ho
          exact ⟨v, fun p s' h h3 => by cases h; rw [ho] at h3; cases h3; exact ⟨h1, h2⟩⟩
    obtain ⟨vals, hvals⟩ : ∃ vals : Nat → Value, ∀ (i : Nat) (o : Oper) (s : Tmp), l[i]? = some o → o.dst = some s → a.tmps[s]? = some (vals i) ∧ R i (vals i) w := ⟨fun i => Classical.choose (hval i), fun i => Classical.choose_spec (hval i)⟩
    have e : a = putAll vals 0 l a0 := by
      have ht : a.tmps = (putAll vals 0 l a0).tmps := by
        apply Array.ext_getElem?
        intro s
        by_cases hs : ∃ (i : Nat) (o : Oper), l[i]? = some o ∧ o.dst = some s
        · obtain ⟨i, o, h1, h2⟩ := hs
          have h3 : s < a0.tmps.size := by
            unfold dstIn at hz
            rw [List.all_eq_true] at hz
            have := hz o (List.mem_of_getElem? h1)
            rw [h2] at this
            simpa using this
          rw [(hvals i o s h1 h2).1, putAll_at vals l 0 a0 s i o hd h1 h2 h3, Nat.zero_add]
        · have hno : ∀ o : Oper, o ∈ l → o.dst ≠ some s := fun o ho e => hs (by
            obtain ⟨i, hi⟩ := List.getElem?_of_mem ho
            exact ⟨i, o, hi, e⟩)
          rw [putAll_other vals l 0 a0 s hno]
          exact inv.old s (fun i o hi _ => hno o (List.mem_of_getElem? hi))
      have hdf : a.defers = (putAll vals 0 l a0).defers := by rw [putAll_defers]; exact inv.defs
      obtain ⟨t1, d1⟩ := a
      cases hp : putAll vals 0 l a0 with
      | mk t2 d2 =>
        rw [hp] at ht hdf
        simp only at ht hdf
        rw [ht, hdf]
    rw [e]
    exact done vals w (fun i o s h1 h2 => (hvals i o s h1 h2).2) (e ▸ (inv.fin (hall m hml)).2)
  have hready : ∀ listed a w, VInv l R Pre m POST a0 listed a w → Region.ready .any l.toArray listed = [] → ∀ i, i < l.length → listed.getD i false = true := fun listed a w inv hr => by
    intro i
    induction i using Nat.strongRecOn with
    | ind i ih =>
      intro hi
      cases hl : listed.getD i false with
      | true => rfl
      | false =>
        exfalso
        have hi2 : l[i]? = some l[i] := List.getElem?_eq_getElem hi
        have : i ∈ Region.ready .any l.toArray listed := mem_ready.2 ⟨by
          rw [Array.getD_eq_getD_getElem?, Array.getElem?_eq_getElem (by rw [inv.lsz]; exact hi)] at hl ⊢
          exact hl, l[i], by simp, fun e he _ => ih e.on (by have := back_of hb hi2 e he; omega) (by have := back_of hb hi2 e he; omega)⟩
        rw [hr] at this
        cases this
  have main : ∀ fuel listed a w, VInv l R Pre m POST a0 listed a w → listed.count false ≤ fuel → wpAny P .any l.toArray Q fuel listed a w := by
    intro fuel
    induction fuel with
    | zero =>
      intro listed a w inv hc
      have hall : ∀ i, i < l.length → listed.getD i false = true := fun i hi => by
        cases hl : listed.getD i false with
        | true => rfl
        | false =>
          exfalso
          have h1 : false ∈ listed := by
            rw [Array.getD_eq_getD_getElem?, Array.getElem?_eq_getElem (by rw [inv.lsz]; exact hi), Option.getD_some] at hl
            rw [← hl]; exact Array.getElem_mem _
          have := Array.count_pos_iff.2 h1
          omega
      refine ⟨?_, hfin listed a w inv hall⟩
      apply List.eq_nil_iff_forall_not_mem.2
      intro j hj
      obtain ⟨h1, o, h2, _⟩ := mem_ready.1 hj
      have hj2 : j < l.length := by
        have := (Array.getElem?_eq_some_iff.1 h2).1
        simpa using this
      have := hall j hj2
      rw [Array.getD_eq_getD_getElem?, Array.getElem?_eq_getElem (by rw [inv.lsz]; exact hj2)] at h1 this
      simp at h1 this
      rw [h1] at this
      cases this
    | succ fuel ih =>
      intro listed a w inv hc
      refine ⟨fun hr => hfin listed a w inv (hready listed a w inv hr), fun i hi => ?_⟩
      obtain ⟨h1, o, h2, h3⟩ := mem_ready.1 hi
      have h2' : l[i]? = some o := by simpa using h2
      have hil : i < l.length := (List.getElem?_eq_some_iff.1 h2').1
      have hlt : i < listed.size := by rw [inv.lsz]; exact hil
      have hcur : listed[i] = false := by
        rw [Array.getD_eq_getD_getElem?, Array.getElem?_eq_getElem hlt] at h1
        exact h1
      have gset : ∀ j, (listed.setIfInBounds i true).getD j false = true → j = i ∨ listed.getD j false = true := fun j hj => by
        by_cases e : i = j
        · exact .inl e.symm
        · rw [getD_set_ne false e] at hj; exact .inr hj
      have hsz : ∀ s, o.dst = some s → s < a.tmps.size := fun s hs => by
        rw [inv.size]
        unfold dstIn at hz
        rw [List.all_eq_true] at hz
        have := hz o (List.mem_of_getElem? h2')
        rw [hs] at this
        simpa using this
      have hpre := inv.pre i (by rw [Array.getD_eq_getD_getElem?, Array.getElem?_eq_getElem hlt]; exact hcur)
      have hknow : VKnow l R a0 o a w := ⟨fun s hs => inv.old s (fun j p hj _ => hs p (List.mem_of_getElem? hj)), fun e he hbd p s hp hs => inv.val e.on p s hp (h3 e he hbd) hs⟩
      have go : ∀ v w', R i v w' → E i w w' → ((listed.setIfInBounds i true).getD m false = true → (∀ j, j < l.length → (listed.setIfInBounds i true).getD j false = true) ∧ POST (a.put o.dst v) w') → wpAny P .any l.toArray Q fuel (listed.setIfInBounds i true) (a.put o.dst v) w' := fun v w' hv hcw hfn => by
        refine ih _ _ _ ⟨by simpa using inv.lsz, fun j hj => ?_, ?_, by rw [put_size]; exact inv.size, fun s hs => ?_, fun j p s hj hlj hp => ?_, hfn⟩ ?_
        · have hne : j ≠ i := fun e => by
            rw [e] at hj
            simp [hlt] at hj
          rw [getD_set_ne false (Ne.symm hne)] at hj
          exact keeps _ _ _ _ hne (inv.pre j hj) hcw
        · have : (a.put o.dst v).defers = a.defers := by unfold Act.put; split <;> rfl
          rw [this]; exact inv.defs
        · rw [put_other (hs i o h2' (by simp [hlt]))]
          refine inv.old s (fun j p hj hlj => hs j p hj (getD_set_true hlj))
        · by_cases e : j = i
          · subst e
            rw [h2'] at hj
            cases hj
            rw [hp]
            exact ⟨v, put_same (hsz s hp), hv⟩
          · have hne : o.dst ≠ some s := fun e2 => e (dst_one hd hj h2' hp e2)
            rw [put_other hne]
            obtain ⟨u, hu1, hu2⟩ := inv.val j p s hj ((gset j hlj).resolve_left e) hp
            exact ⟨u, hu1, stable _ _ _ _ _ e hu2 hcw⟩
        · have hcs := Array.count_set (a := true) (b := false) (xs := listed) (i := i) hlt
          rw [show listed.setIfInBounds i true = listed.set i true hlt from by simp [Array.setIfInBounds, hlt]]
          rw [hcs, hcur]
          simp
          omega
      by_cases him : i = m
      · subst him
        refine wpOp_of_list h2 (last o h2' a w hpre hknow _ (fun v w' hv hcw hp => go v w' hv hcw (fun _ => ⟨fun j hj => ?_, hp⟩)))
        by_cases e : j = i
        · subst e
          simp [hlt]
        · obtain ⟨ed, he1, he2, he3⟩ := hlast o h2' j hj e
          have := h3 ed he1 he3
          rw [he2] at this
          exact getD_set_true this
      · refine wpOp_of_list h2 (step i o him h2' a w hpre hknow _ (fun v w' hv hcw => go v w' hv hcw (fun hmm => ?_)))
        exfalso
        have h5 := (inv.fin (by rw [getD_set_ne false him] at hmm; exact hmm)).1 i hil
        rw [Array.getD_eq_getD_getElem?, Array.getElem?_eq_getElem hlt, Option.getD_some, hcur] at h5
        cases h5
  have inv0 : VInv l R Pre m POST a0 (Array.replicate l.toArray.size false) a0 w0.drew := by
    have hno : ∀ i, (Array.replicate l.toArray.size false).getD i false = false := fun i => by
      rw [Array.getD_eq_getD_getElem?]
      by_cases h : i < l.toArray.size
      · simp only [Array.getElem?_replicate]; split <;> rfl
      · simp only [Array.getElem?_replicate]; split <;> rfl
    exact ⟨by simp, fun i _ => start i, rfl, rfl, fun s _ => rfl, fun i o s _ h => (by rw [hno] at h; cases h), fun h => (by rw [hno] at h; cases h)⟩
  refine main l.toArray.size _ _ _ inv0 ?_
  simp [Array.count_replicate]
end
end Go.Proofs.YtobfanodjdkkoaaDoor
