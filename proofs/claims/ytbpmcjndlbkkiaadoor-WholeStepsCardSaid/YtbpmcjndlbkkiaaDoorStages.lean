/- Regions that draw their order: most operations only read, and call what changes nothing old; some, each of which comes up alone, may do whatever they do: one walk in the order of the text. No condition. -/
import Derived.Test.YtbpmcjndlbkkiaaDoorTail
set_option linter.unusedVariables false
set_option linter.unusedSimpArgs false
namespace Go.Proofs.YtbpmcjndlbkkiaaDoor
open Go.RowKit

section
variable {P : Program} {ops : Array Oper} {md : Region.Mode}
/-- Each operation behind n waits for one from n on. -/
def behindB (md : Region.Mode) (ops : Array Oper) (n : Nat) : Bool :=
  (List.range ops.size).all fun t => decide (t ≤ n) || (List.range t).any fun j => decide (n ≤ j) && Region.waitsFor md ops t j
theorem waits_all {n : Nat} {listed : Array Bool} (hs : Region.sinkB md ops n = true) (hc : behindB md ops n = true) (inv : HeadInv md ops n listed) :
    ∀ (d i : Nat), n - i = d → i < n → listed.getD i true = false → ∀ t, n ≤ t → t ∉ Region.ready md ops listed := by
  intro d
  induction d using Nat.strongRecOn with
  | _ d ih =>
    intro i hd hi hun t ht hr
    obtain ⟨_, ot, hot, hall⟩ := mem_ready.1 hr
    have htlt : t < ops.size := (Array.getElem?_eq_some_iff.1 hot).1
    by_cases htn : t = n
    · subst htn
      obtain ⟨j, hj, hj2⟩ := List.any_eq_true.1 (List.all_eq_true.1 hs i (List.mem_range.2 hi))
      simp only [Bool.and_eq_true, decide_eq_true_eq] at hj2
      obtain ⟨oj, hoj, e, he, hb, hon⟩ := Region.waitsFor_spec hj2.2
      have hjle := List.mem_range.1 hj
      by_cases hjt : j = t
      · subst hjt
        obtain rfl : oj = ot := Option.some.inj (hoj.symm.trans hot)
        have h2 := hall e he hb
        rw [hon, getD_both hun] at h2
        cases h2
      · cases hl : listed.getD j false with
        | true =>
          have h2 := inv.closed j oj hoj hl e he hb
          rw [hon, getD_both hun] at h2
          cases h2
        | false => exact ih (t - j) (by omega) j rfl (by omega) (getD_in (by rw [inv.size]; omega) hl) t (Nat.le_refl _) hr
    · have h1 := List.all_eq_true.1 hc t (List.mem_range.2 htlt)
      simp only [Bool.or_eq_true, decide_eq_true_eq] at h1
      rcases h1 with h1 | h1
      · omega
      · obtain ⟨j, hj, hj2⟩ := List.any_eq_true.1 h1
        simp only [Bool.and_eq_true, decide_eq_true_eq] at hj2
        obtain ⟨o', ho', e, he, hb, hon⟩ := Region.waitsFor_spec hj2.2
        obtain rfl : o' = ot := Option.some.inj (ho'.symm.trans hot)
        have h2 := hall e he hb
        rw [hon, getD_both (inv.tail j hj2.1 (by have := List.mem_range.1 hj; omega))] at h2
        cases h2
theorem inv_more {n m : Nat} {listed : Array Bool} (inv : HeadInv md ops n listed) (h : n ≤ m) : HeadInv md ops m listed := ⟨inv.size, inv.closed, fun t ht ht' => inv.tail t (by omega) ht'⟩
/-- The operations from k on, f of them, are listed. -/
def setUp (listed : Array Bool) (k : Nat) : Nat → Array Bool
  | 0 => listed
  | f + 1 => setUp (listed.setIfInBounds k true) (k + 1) f
def headB (md : Region.Mode) (ops : Array Oper) : Nat → Nat → Array Bool → Bool
  | 0, k, listed => decide (Region.ready md ops listed = [k])
  | f + 1, k, listed => (Region.ready md ops listed).contains k && Region.free md ops listed k && headB md ops f (k + 1) (listed.setIfInBounds k true)
theorem inv_up {n : Nat} : ∀ (f k : Nat) (listed : Array Bool), k + f = n → HeadInv md ops n listed → headB md ops f k listed = true → HeadInv md ops n (setUp listed k f) ∧ Region.ready md ops (setUp listed k f) = [n] := by
  intro f
  induction f with
  | zero =>
    intro k listed hk inv hB
    obtain rfl : k = n := by omega
    refine ⟨inv, ?_⟩
    show Region.ready md ops listed = [k]
    simpa [headB] using hB
  | succ f ih =>
    intro k listed hk inv hB
    simp only [headB, Bool.and_eq_true] at hB
    exact ih (k + 1) _ (by omega) (inv.set (by simpa using hB.1.1) (by omega)) hB.2
theorem first_up {C : World → Prop} {n i : Nat} {oi : Oper} {v : Value} {L : Array Bool → Act → Prop} (hi : ops[i]? = some oi) (hsel : ∀ (j : Nat) (o : Oper) cs b, ops[j]? = some o → o.op ≠ .select cs b)
    (hs : Region.sinkB md ops n = true) (hc : behindB md ops n = true) (hin : i < n)
    (hdone : ∀ listed a, L listed a → ∀ j ∈ Region.ready md ops listed, n ≤ j) :
    ∀ (f : Nat) (listed : Array Bool) (a : Act), HeadInv md ops n listed →
      (∀ j oj, ops[j]? = some oj → j ≠ i → listed.getD j true = false → (∀ e ∈ oj.after, Region.binds md e = true → e.on ≠ i) → oi.apart ops oj = true) →
      i ∈ Region.ready md ops listed → YieldsIn P ops C oi v a →
      AnyHead P md ops C n L f (listed.setIfInBounds i true) (a.put oi.dst v) → AnyHead P md ops C n L (f + 1) listed a := by
  intro f
  induction f with
  | zero =>
    intro listed a inv _ hr hy H
    refine ⟨fun h => (by rw [h] at hr; cases hr), fun j hj => ?_⟩
    have hjn : j < n := Nat.lt_of_not_le fun h => waits_all hs hc inv _ i rfl hin (mem_ready.1 hr).1 j h hj
    refine ⟨hjn, ?_⟩
    by_cases hji : j = i
    · subst hji
      exact hy.qOp hi H
    · have := hdone _ _ H j (ready_mono hj hji)
      omega
  | succ f ih =>
    intro listed a inv hfree hr hy H
    refine ⟨fun h => (by rw [h] at hr; cases hr), fun j hj => ?_⟩
    have hjn : j < n := Nat.lt_of_not_le fun h => waits_all hs hc inv _ i rfl hin (mem_ready.1 hr).1 j h hj
    refine ⟨hjn, ?_⟩
    by_cases hji : j = i
    · subst hji
      exact hy.qOp hi H
    · obtain ⟨hjun, oj, hoj, hall⟩ := mem_ready.1 hj
      have hnot : ∀ e ∈ oj.after, Region.binds md e = true → e.on ≠ i := fun e he hb heq => by
        have h1 := hall e he hb
        rw [heq, getD_both (mem_ready.1 hr).1] at h1
        cases h1
      have h2 := qOp_put hoj (hfree j oj hoj hji hjun hnot) (fun cs b => hsel i oi cs b hi) (fun cs b => hsel j oj cs b hoj) hy (H.2 j (ready_mono hj hji)).2
      refine qOp_mono (fun a' h3 => ih (listed.setIfInBounds j true) a' (inv.set hj hjn) (fun k ok hk hki hun hno => ?_) (ready_mono hr (Ne.symm hji)) h3.1 ?_) h2
      · refine hfree k ok hk hki ?_ hno
        by_cases hjk : j = k
        · subst hjk; exact hjun
        · rwa [getD_set_ne true hjk] at hun
      · rw [Array.setIfInBounds_comm _ _ hji]
        exact h3.2
theorem lex_up {C : World → Prop} {n : Nat} {Lq : Act → Prop} (hsel : Region.noSelect ops = true) (hs : Region.sinkB md ops n = true) (hc : behindB md ops n = true) :
    ∀ (l : List Oper) (k : Nat) (listed : Array Bool) (a : Act), (∀ j, j < l.length → l[j]? = ops[k + j]?) → k + l.length = n → HeadInv md ops n listed →
    headB md ops l.length k listed = true → wpQuiet P ops C Lq l a →
    AnyHead P md ops C n (fun listed' a' => (listed' = setUp listed k l.length ∧ Region.ready md ops listed' = [n]) ∧ Lq a') l.length listed a := by
  intro l
  induction l with
  | nil =>
    intro k listed a _ hk inv hB h
    obtain rfl : k = n := by simpa using hk
    refine ⟨⟨rfl, ?_⟩, h⟩
    show Region.ready md ops listed = [k]
    simpa [headB] using hB
  | cons o l ih =>
    intro k listed a hl hk inv hB h
    have h0 : ops[k]? = some o := by simpa using (hl 0 (by simp)).symm
    simp only [List.length_cons, headB, Bool.and_eq_true] at hB hk
    have hkn : k < n := by omega
    have hr : k ∈ Region.ready md ops listed := by simpa using hB.1.1
    have hst : qOp P ops C k (wpQuiet P ops C Lq l) a := by
      unfold qOp
      simp only [h0]
      exact h
    obtain ⟨v, hy, hK⟩ := yieldsIn_of_qOp h0 hst
    exact first_up h0 (Region.noSelect_spec hsel) hs hc hkn (fun listed' a' hL j hj => by rw [hL.1.2] at hj; simp at hj; omega) l.length listed a inv (Region.free_spec h0 hB.1.2) hr hy
      (ih (k + 1) _ _ (fun j hj => by have := hl (j + 1) (by simp; omega); simpa [Nat.add_assoc, Nat.add_comm 1 j] using this) (by omega) (inv.set hr hkn) hB.2 hK)
/-- The walk: quiet operations up to each of those that come up alone, that one, and so on; at last quiet ones. -/
def wpStages (P : Program) (ops : List Oper) (Q : Exit → Act → World → Prop) : List Nat → Nat → Act → World → Prop
  | [], k, a, w => wpQuiet P ops.toArray (fun w' => ∃ u : Ext w, w' = u.val) (fun a' => ∀ w', (∃ u : Ext w, w' = u.val) → Q .normal a' w') (ops.drop k) a
  | n :: ns, k, a, w => wpQuiet P ops.toArray (fun w' => ∃ u : Ext w, w' = u.val) (fun a' => ∀ w', (∃ u : Ext w, w' = u.val) → wpOp P ops.toArray Q n (fun a'' w'' => wpStages P ops Q ns (n + 1) a'' w'') a' w') ((ops.drop k).take (n - k)) a
def stagesB (md : Region.Mode) (ops : Array Oper) : List Nat → Nat → Array Bool → Bool
  | [], k, listed => Region.lexFrom md ops (ops.size - k) k listed
  | n :: ns, k, listed => decide (k ≤ n) && decide (n < ops.size) && Region.sinkB md ops n && behindB md ops n && headB md ops (n - k) k listed && stagesB md ops ns (n + 1) ((setUp listed k (n - k)).setIfInBounds n true)
theorem stages_any {l : List Oper} {Q : Exit → Act → World → Prop} (hsel : Region.noSelect l.toArray = true) : ∀ (ns : List Nat) (k : Nat) (listed : Array Bool) (a : Act) (w : World), k ≤ l.length → HeadInv md l.toArray k listed →
    stagesB md l.toArray ns k listed = true → wpStages P l Q ns k a w → wpAny P md l.toArray Q (l.length - k) listed a w := by
  intro ns
  induction ns with
  | nil =>
    intro k listed a w hk inv hB h
    have hw : ∃ u : Ext w, w = u.val := ⟨⟨w, Ch.refl _ _⟩, rfl⟩
    have e : (l.drop k).length = l.length - k := by simp
    have := wpAnyQ_lex (C := fun w' => ∃ u : Ext w, w' = u.val) (md := md) hsel (l.drop k) k listed a (fun j => by simp [List.getElem?_drop]) (by rw [e]; simpa [stagesB] using hB) h
    rw [e] at this
    exact wpAny_of_quiet (Q := fun a' => ∀ w', (∃ u : Ext w, w' = u.val) → Q .normal a' w') (fun _ w' hw' h => h w' hw') _ _ _ _ hw this
  | cons n ns ih =>
    intro k listed a w hk inv hB h
    simp only [stagesB, Bool.and_eq_true, decide_eq_true_eq] at hB
    obtain ⟨⟨⟨⟨⟨hkn, hn⟩, hs⟩, hc⟩, hh⟩, hrest⟩ := hB
    have hn' : n < l.length := by simpa using hn
    have hlen : ((l.drop k).take (n - k)).length = n - k := by simp; omega
    have inv' := inv_more inv hkn
    obtain ⟨invU, hready⟩ := inv_up (n - k) k listed (by omega) inv' hh
    have invN : HeadInv md l.toArray (n + 1) ((setUp listed k (n - k)).setIfInBounds n true) := (inv_more invU (by omega)).set (by rw [hready]; simp) (by omega)
    have hw : ∃ u : Ext w, w = u.val := ⟨⟨w, Ch.refl _ _⟩, rfl⟩
    have H := lex_up (P := P) (C := fun w' => ∃ u : Ext w, w' = u.val) (md := md) hsel hs hc ((l.drop k).take (n - k)) k listed a (fun j hj => by
      have hj' : j < n - k := by rw [hlen] at hj; exact hj
      simp [hj', List.getElem?_drop]) (by rw [hlen]; omega) inv' (by rw [hlen]; exact hh) h
    have := any_of_head (Q' := Q) (g := (l.length - (n + 1)) + 1) (fun listed' a' w' hw' hL => by
      obtain ⟨⟨rfl, hr'⟩, hq⟩ := hL
      refine ⟨fun h0 => (by rw [hr'] at h0; cases h0), fun i hi => ?_⟩
      rw [hr'] at hi
      obtain rfl : i = n := by simpa using hi
      refine wpOp_mono (fun a'' w'' h'' => ?_) (hq w' hw')
      rw [hlen]
      exact ih (i + 1) _ a'' w'' (by omega) invN hrest h'') _ _ _ w hw H
    rw [hlen, show n - k + (l.length - (n + 1) + 1) = l.length - k by omega] at this
    exact this
theorem wp_region_stages {id : Nat} {Q : Exit → Act → World → Prop} {a : Act} {w : World} {l : List Oper} (ns : List Nat) (hm : P.follows .mixedOrders = true) (hB : (Region.noSelect l.toArray && stagesB .any l.toArray ns 0 (Array.replicate l.length false)) = true)
    (h : wpStages P l Q ns 0 a w.drew) : (Code.region id l.toArray true).wp P Q a w := by
  simp only [Bool.and_eq_true] at hB
  have inv0 : HeadInv .any l.toArray 0 (Array.replicate l.length false) :=
    ⟨by simp, fun j oj _ hl => (by rw [getD_replicate_false] at hl; cases hl), fun t _ ht => getD_in (by simpa using ht) (getD_replicate_false _ _)⟩
  refine wp_region_any hm ?_
  have := stages_any (P := P) (md := .any) (Q := Q) hB.1 ns 0 _ a w.drew (Nat.zero_le _) inv0 hB.2 h
  simpa using this
/-- The operation that comes up alone. -/
theorem wpOp_run {Q : Exit → Act → World → Prop} {i : Nat} {o : Oper} {a : Act} {w : World} {K : Act → World → Prop} (hi : ops[i]? = some o) (hw : Region.wanted o (yielded ops a.tmps) = true)
    (h : ∀ K' : Act → World → Prop, (∀ a w, K a w → K' a w) → o.wp P a w K' Q) : wpOp P ops Q i K a w := by
  unfold wpOp
  simp only [hi, hw, if_true]
  exact .inl (h K fun _ _ h => h)
theorem wpOp_skip {Q : Exit → Act → World → Prop} {i : Nat} {o : Oper} {a : Act} {w : World} {K : Act → World → Prop} (hi : ops[i]? = some o) (hw : Region.wanted o (yielded ops a.tmps) = false)
    (h : K (a.put o.dst undef) w) : wpOp P ops Q i K a w := by
  unfold wpOp
  simp only [hi, hw]
  exact h
end
end Go.Proofs.YtbpmcjndlbkkiaaDoor
