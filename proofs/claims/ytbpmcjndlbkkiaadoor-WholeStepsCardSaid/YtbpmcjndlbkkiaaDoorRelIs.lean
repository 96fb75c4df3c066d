/- Plain law: relations as rows of bits, and as pairs. No condition but each theorem's own. -/
import Derived.Test.YtbpmcjndlbkkiaaDoorRelSpeaks
set_option linter.unusedVariables false
set_option linter.unusedSimpArgs false
namespace Go.Proofs.YtbpmcjndlbkkiaaDoor
open Go.RowKit

theorem hasR_iff (r : Nat → Nat) (a b : Int) : hasR r a b = true ↔ ∃ i j : Nat, a = i ∧ b = j ∧ i < 64 ∧ j < 64 ∧ E r i j := by
  constructor
  · intro h
    have h' := h
    unfold hasR at h'
    rw [Bool.and_eq_true] at h'
    have h1 := of_decide_eq_true h'.1
    have h2 := h'.2
    unfold hasS at h2
    rw [Bool.and_eq_true] at h2
    have h3 := of_decide_eq_true h2.1
    exact ⟨a.toNat, b.toNat, by omega, by omega, by omega, by omega, h2.2⟩
  · rintro ⟨i, j, rfl, rfl, hi, hj, he⟩
    rw [hasR_nat _ _ _ hi hj]; exact he
/-! ### Bit by bit -/
theorem unionR_bit (r t : Nat → Nat) (i j : Nat) (hi : i < 64) : E (unionR r t 64) i j ↔ E r i j ∨ E t i j := by
  show (unionR r t 64 i).testBit j = true ↔ _
  unfold unionR
  rw [if_pos hi, Nat.testBit_or, Bool.or_eq_true]
theorem thenR_bit (r t : Nat → Nat) (i j : Nat) : E (thenR r t) i j ↔ ∃ m, m < 64 ∧ E r i m ∧ E t m j := orTo_list_bit t (r i) j
theorem turnRow_bit (s : Nat → Nat) (i : Nat) (hi : i < 64) (a b : Nat) (ha : a < 64) (hb : b < 64) : ∀ (l : List Int), E (turnRow s i l l.length) a b ↔ E s a b ∨ ((a : Int) ∈ l ∧ b = i) := by
  intro l
  unfold turnRow
  rw [List.take_length]
  induction l generalizing s with
  | nil => simp
  | cons x l ih =>
    rw [List.foldl_cons, ih, addR_bit _ _ _ _ _ ha hb, List.mem_cons]
    constructor
    · rintro ((h | ⟨h1, h2⟩) | ⟨h1, h2⟩)
      · exact .inl h
      · exact .inr ⟨.inl h1, by omega⟩
      · exact .inr ⟨.inr h1, h2⟩
    · rintro (h | ⟨h1 | h1, h2⟩)
      · exact .inl (.inl h)
      · exact .inl (.inr ⟨h1, by omega⟩)
      · exact .inr ⟨h1, h2⟩
theorem turnTo_bit (r : Nat → Nat) (a b : Nat) (ha : a < 64) (hb : b < 64) : ∀ k, k ≤ 64 → (E (turnTo r k) a b ↔ b < k ∧ E r b a)
  | 0, _ => by
    constructor
    · intro h
      have h' : (0 : Nat).testBit b = true := h
      rw [Nat.zero_testBit] at h'; cases h'
    · rintro ⟨h, _⟩; omega
  | k + 1, hk => by
    show E (turnRow (turnTo r k) k (listS (r k)) (listS (r k)).length) a b ↔ _
    rw [turnRow_bit _ _ (by omega) _ _ ha hb, turnTo_bit r a b ha hb k (by omega), mem_listS_nat _ _ ha]
    constructor
    · rintro (⟨h1, h2⟩ | ⟨h1, rfl⟩)
      · exact ⟨by omega, h2⟩
      · exact ⟨by omega, h1⟩
    · rintro ⟨h1, h2⟩
      by_cases e : b = k
      · subst e; exact .inr ⟨h2, rfl⟩
      · exact .inl ⟨by omega, h2⟩
theorem turned_bit (r : Nat → Nat) (a b : Nat) (ha : a < 64) (hb : b < 64) : E (turnTo r 64) a b ↔ E r b a := by
  rw [turnTo_bit r a b ha hb 64 (Nat.le_refl _)]
  exact ⟨fun h => h.2, fun h => ⟨hb, h⟩⟩
theorem withinR_iff (r t : Nat → Nat) (okr : RelOK r) : withinR r t = true ↔ ∀ i j, i < 64 → j < 64 → E r i j → E t i j := by
  unfold withinR
  rw [List.all_eq_true]
  have within_iff : ∀ s t : Nat, s < 18446744073709551616 → (withinS s t = true ↔ ∀ j, j < 64 → s.testBit j = true → t.testBit j = true) := by
    intro s t hs
    unfold withinS
    rw [beq_iff_eq]
    constructor
    · intro h j _ hj
      have h1 : (s ^^^ (s &&& t)).testBit j = false := by rw [h]; exact Nat.zero_testBit j
      rw [Nat.testBit_xor, Nat.testBit_and, hj] at h1
      simpa using h1
    · intro h
      refine Nat.eq_of_testBit_eq fun j => ?_
      rw [Nat.testBit_xor, Nat.testBit_and, Nat.zero_testBit]
      by_cases hj : j < 64
      · cases hsj : s.testBit j with
        | false => simp
        | true => rw [h j hj hsj]; rfl
      · rw [Bits.high s j hs (by omega)]; rfl
  constructor
  · intro h i j hi hj he
    exact (within_iff _ _ (okr i)).1 (h i (List.mem_range.2 hi)) j hj he
  · intro h i hi
    exact (within_iff _ _ (okr i)).2 fun j hj he => h i j (List.mem_range.1 hi) hj he
theorem rel_ext {r t : Nat → Nat} (okr : RelOK r) (okt : RelOK t) (h : ∀ i j, i < 64 → j < 64 → (E r i j ↔ E t i j)) : ∀ i, i < 64 → r i = t i := fun i hi =>
  Bits.ext64 (okr i) (okt i) fun j hj => by
    have := h i j hi hj
    exact Bool.eq_iff_iff.2 this
/-! ### Pairs -/
/-- A relation's pairs, each once. -/
structure Is (r : Nat → Nat) (l : List IPair) : Prop where
  once : l.Nodup
  mem : ∀ a b : Int, (a, b) ∈ l ↔ hasR r a b = true
theorem Is.of_bits {r : Nat → Nat} {l : List IPair} (h : l.Nodup) (hin : ∀ a b : Int, (a, b) ∈ l → inS a = true ∧ inS b = true) (hb : ∀ i j : Nat, i < 64 → j < 64 → (((i : Int), (j : Int)) ∈ l ↔ E r i j)) : Is r l :=
  ⟨h, fun a b => by
    rw [hasR_iff]
    constructor
    · intro hm
      obtain ⟨h1, h2⟩ := hin a b hm
      have h1 := of_decide_eq_true h1
      have h2 := of_decide_eq_true h2
      refine ⟨a.toNat, b.toNat, by omega, by omega, by omega, by omega, (hb _ _ (by omega) (by omega)).1 ?_⟩
      rw [Int.toNat_of_nonneg h1.1, Int.toNat_of_nonneg h2.1]; exact hm
    · rintro ⟨i, j, rfl, rfl, hi, hj, he⟩
      exact (hb i j hi hj).2 he⟩
theorem Is.in {r : Nat → Nat} {l : List IPair} (h : Is r l) {a b : Int} (hm : (a, b) ∈ l) : inS a = true ∧ inS b = true := by
  obtain ⟨i, j, rfl, rfl, hi, hj, _⟩ := (hasR_iff r a b).1 ((h.mem a b).1 hm)
  unfold inS
  exact ⟨decide_eq_true (by omega), decide_eq_true (by omega)⟩
theorem Is.bit {r : Nat → Nat} {l : List IPair} (h : Is r l) {i j : Nat} (hi : i < 64) (hj : j < 64) : ((i : Int), (j : Int)) ∈ l ↔ E r i j := by
  rw [h.mem, hasR_nat _ _ _ hi hj]
/-- All pairs of a relation's first rows. -/
def pairsTo (r : Nat → Nat) : Nat → List IPair
  | 0 => []
  | i + 1 => pairsTo r i ++ (listS (r i)).map fun j => ((i : Int), j)
theorem pairsTo_len (r : Nat → Nat) : ∀ i, (pairsTo r i).length = sumTo r i
  | 0 => rfl
  | i + 1 => by
    unfold pairsTo sumTo
    rw [List.length_append, pairsTo_len r i, List.length_map]
    unfold listS Bits.count
    rw [List.length_map]
theorem mem_pairsTo (r : Nat → Nat) (a b : Int) : ∀ i, (a, b) ∈ pairsTo r i ↔ ∃ k : Nat, k < i ∧ a = k ∧ b ∈ listS (r k)
  | 0 => by simp [pairsTo]
  | i + 1 => by
    unfold pairsTo
    rw [List.mem_append, mem_pairsTo r a b i, List.mem_map]
    constructor
    · rintro (⟨k, hk, h⟩ | ⟨j, hj, h⟩)
      · exact ⟨k, by omega, h⟩
      · simp only [Prod.mk.injEq] at h
        obtain ⟨rfl, rfl⟩ := h
        exact ⟨i, by omega, rfl, hj⟩
    · rintro ⟨k, hk, rfl, h⟩
      by_cases e : k = i
      · subst e; exact .inr ⟨b, h, rfl⟩
      · exact .inl ⟨k, by omega, rfl, h⟩
theorem nodup_map {α β : Type} (f : α → β) (hf : ∀ a b, f a = f b → a = b) {l : List α} (h : l.Nodup) : (l.map f).Nodup := by
  unfold List.Nodup at *
  rw [List.pairwise_map]
  exact h.imp (fun hab e => hab (hf _ _ e))
theorem nodup_listS (s : Nat) : (listS s).Nodup := by
  unfold listS
  exact nodup_map _ (fun a b e => by omega) (nodup_listN s)
theorem nodup_pairsTo (r : Nat → Nat) : ∀ i, (pairsTo r i).Nodup
  | 0 => List.nodup_nil
  | i + 1 => by
    unfold pairsTo
    rw [List.nodup_append]
    refine ⟨nodup_pairsTo r i, nodup_map _ (fun a b e => by simpa using e) (nodup_listS _), ?_⟩
    rintro ⟨a, b⟩ h1 ⟨c, d⟩ h2 e
    obtain ⟨k, hk, rfl, _⟩ := (mem_pairsTo r a b i).1 h1
    obtain ⟨j, hj, h⟩ := List.mem_map.1 h2
    simp only [Prod.mk.injEq] at h e
    omega
theorem Is.pairs {r : Nat → Nat} (n : Nat) (hn : n = 64) : Is r (pairsTo r n) := by
  refine Is.of_bits (nodup_pairsTo r n) (fun a b h => ?_) fun i j hi hj => ?_
  · obtain ⟨k, hk, rfl, h2⟩ := (mem_pairsTo r a b n).1 h
    obtain ⟨j, rfl, hj, _⟩ := of_mem_listS h2
    unfold inS
    exact ⟨decide_eq_true (by omega), decide_eq_true (by omega)⟩
  · rw [mem_pairsTo]
    constructor
    · rintro ⟨k, hk, e, h⟩
      obtain rfl : i = k := by omega
      exact (mem_listS_nat _ _ hj).1 h
    · intro h
      exact ⟨i, by omega, rfl, (mem_listS_nat _ _ hj).2 h⟩
theorem Is.len {r : Nat → Nat} {l m : List IPair} (h : Is r l) (k : Is r m) : l.length = m.length := by
  have h1 := nodup_len l m h.once (fun ⟨a, b⟩ hx => (k.mem a b).2 ((h.mem a b).1 hx))
  have h2 := nodup_len m l k.once (fun ⟨a, b⟩ hx => (h.mem a b).2 ((k.mem a b).1 hx))
  omega
theorem Is.same {r : Nat → Nat} {l : List IPair} (h : Is r l) : sameR r l = true := by
  unfold sameR
  rw [Bool.and_eq_true, List.all_eq_true, beq_iff_eq]
  refine ⟨fun ⟨a, b⟩ hx => (h.mem a b).1 hx, ?_⟩
  rw [← pairsTo_len, (Is.pairs (r := r) 64 rfl).len h]
theorem Is.none : Is (fun _ => 0) [] := Is.of_bits List.nodup_nil (fun _ _ h => by cases h) fun i j _ _ => by
  constructor
  · intro h; cases h
  · intro h
    have h' : (0 : Nat).testBit j = true := h
    rw [Nat.zero_testBit] at h'; cases h'
theorem Is.add {r : Nat → Nat} {l : List IPair} (h : Is r l) (a b : Int) (hr : rightP a b = true) : Is (addR r a b) (putP l a b) := by
  have hr' := hr
  unfold rightP at hr'
  rw [Bool.and_eq_true] at hr'
  have h1 := of_decide_eq_true hr'.1
  have h2 := of_decide_eq_true hr'.2
  refine Is.of_bits (nodup_putP _ _ _ h.once) (fun x y hm => ?_) fun i j hi hj => ?_
  · rcases (mem_putP _ _ _ _).1 hm with hm | hm
    · exact h.in hm
    · simp only [Prod.mk.injEq] at hm
      rw [hm.1, hm.2]; exact hr'
  · rw [mem_putP, h.bit hi hj, addR_bit _ _ _ _ _ hi hj]
    simp
theorem Is.add_not {r : Nat → Nat} {l : List IPair} (h : Is r l) (a b : Int) (hr : rightP a b = false) : Is (addR r a b) l := by
  have : addR r a b = r := by unfold addR; rw [if_neg]; unfold rightP at hr; rw [hr]; decide
  rw [this]; exact h
theorem Is.of (l : List IPair) : ∀ k, k ≤ l.length → Is (ofRel l k) (ofPairs l k)
  | 0, _ => Is.none
  | k + 1, hk => by
    have ih := Is.of l k (by omega)
    rw [ofRel_succ l k (by omega), ofPairs_succ l k (by omega)]
    cases h : rightP (l.getD k (0, 0)).1 (l.getD k (0, 0)).2
    · exact ih.add_not _ _ h
    · exact ih.add _ _ h
theorem Is.union {r t : Nat → Nat} {l m : List IPair} (h : Is r l) (k : Is t m) : Is (unionR r t 64) (addTo l m m.length) := by
  refine Is.of_bits (nodup_addTo _ _ _ h.once) (fun x y hm => ?_) fun i j hi hj => ?_
  · rcases (mem_addTo _ _ _).1 hm with hm | hm
    · exact h.in hm
    · exact k.in hm
  · rw [mem_addTo, h.bit hi hj, k.bit hi hj, unionR_bit _ _ _ _ hi]
theorem nodup_thenStep (p : IPair) (out : List IPair) (q : IPair) (h : out.Nodup) : (thenStep p out q).Nodup := by
  unfold thenStep
  split
  · exact nodup_putP _ _ _ h
  · exact h
theorem nodup_foldStep (p : IPair) : ∀ (m out : List IPair), out.Nodup → (m.foldl (thenStep p) out).Nodup
  | [], _, h => h
  | q :: m, out, h => nodup_foldStep p m _ (nodup_thenStep p out q h)
theorem nodup_thenP (l m : List IPair) (i : Nat) : (thenP l m i).Nodup := by
  unfold thenP
  generalize l.take i = xs
  have : ∀ (xs out : List IPair), out.Nodup → (xs.foldl (fun out p => thenIn p m out m.length) out).Nodup := by
    intro xs
    induction xs with
    | nil => intro out h; exact h
    | cons p xs ih => intro out h; exact ih _ (nodup_foldStep p _ _ h)
  exact this xs [] List.nodup_nil
theorem Is.then {r t : Nat → Nat} {l m : List IPair} (h : Is r l) (k : Is t m) : Is (thenR r t) (thenP l m l.length) := by
  refine Is.of_bits (nodup_thenP _ _ _) (fun x y hm => ?_) fun i j hi hj => ?_
  · obtain ⟨⟨a, b⟩, hp, ⟨c, d⟩, hq, _, e⟩ := (mem_thenP _ _ _).1 hm
    simp only [Prod.mk.injEq] at e
    rw [e.1, e.2]
    exact ⟨(h.in hp).1, (k.in hq).2⟩
  · rw [mem_thenP, thenR_bit]
    constructor
    · rintro ⟨⟨a, b⟩, hp, ⟨c, d⟩, hq, e, e2⟩
      simp only [Prod.mk.injEq] at e e2
      obtain ⟨rfl, rfl⟩ := e2
      subst e
      have hb := of_decide_eq_true (h.in hp).2
      obtain ⟨n, rfl⟩ := Int.eq_ofNat_of_zero_le hb.1
      exact ⟨n, by omega, (h.bit hi (by omega)).1 hp, (k.bit (by omega) hj).1 hq⟩
    · rintro ⟨n, hn, h1, h2⟩
      exact ⟨_, (h.bit hi hn).2 h1, _, (k.bit hn hj).2 h2, rfl, rfl⟩
theorem Is.turned {r : Nat → Nat} {l : List IPair} (h : Is r l) : Is (turnTo r 64) (l.map fun p => (p.2, p.1)) := by
  refine Is.of_bits (nodup_map _ (fun a b e => by simp only [Prod.mk.injEq] at e; exact Prod.ext e.2 e.1) h.once) (fun x y hm => ?_) fun i j hi hj => ?_
  · obtain ⟨⟨a, b⟩, hp, e⟩ := List.mem_map.1 hm
    simp only [Prod.mk.injEq] at e
    rw [← e.1, ← e.2]
    exact ⟨(h.in hp).2, (h.in hp).1⟩
  · rw [List.mem_map, turned_bit _ _ _ hi hj, ← h.bit hj hi]
    constructor
    · rintro ⟨⟨a, b⟩, hp, e⟩
      simp only [Prod.mk.injEq] at e
      rw [← e.1, ← e.2]; exact hp
    · intro hp
      exact ⟨_, hp, rfl⟩
theorem Closed.trans {l out : List IPair} (h : Closed l out) : ∀ x ∈ out, ∀ a, (a, x.1) ∈ out → (a, x.2) ∈ out := by
  refine h.least (fun x => ∀ a, (a, x.1) ∈ out → (a, x.2) ∈ out) (fun x hx a ha => ?_) (fun a b c hab hbc z hz => ?_)
  · exact h.closed _ ha x hx rfl
  · exact h.closed _ (hab z hz) (b, c) hbc rfl
theorem Is.closure {r : Nat → Nat} {l out : List IPair} (h : Is r l) (k : Closed l out) : Is (closeR r 64) out := by
  have hin : ∀ a b : Int, (a, b) ∈ out → inS a = true ∧ inS b = true := fun a b hm => by
    obtain ⟨⟨a1, b1⟩, h1, ⟨a2, b2⟩, h2, e⟩ := k.grid _ hm
    simp only [Prod.mk.injEq] at e
    rw [e.1, e.2]
    exact ⟨(h.in h1).1, (h.in h2).2⟩
  refine Is.of_bits k.once hin fun i j hi hj => ?_
  rw [show E (closeR r 64) i j ↔ War (E r) 64 i j from closeR_war r 64 (Nat.le_refl _) i j hi hj]
  constructor
  · intro hm
    have := k.least (fun x => ∃ i j : Nat, x = ((i : Int), (j : Int)) ∧ i < 64 ∧ j < 64 ∧ War (E r) 64 i j) (fun ⟨a, b⟩ hx => by
      obtain ⟨i, j, rfl, rfl, hi, hj, he⟩ := (hasR_iff r a b).1 ((h.mem a b).1 hx)
      exact ⟨i, j, rfl, hi, hj, War.sub _ _ _ he⟩) (fun a b c ⟨i, j, e, hi, hj, hw⟩ hbc => by
      simp only [Prod.mk.injEq] at e
      obtain ⟨rfl, rfl⟩ := e
      obtain ⟨j', m, e, rfl, hj', hm, he⟩ := (hasR_iff r _ c).1 ((h.mem _ c).1 hbc)
      obtain rfl : j = j' := by omega
      exact ⟨i, m, rfl, hi, hm, War.trans 64 i j m hj hw (War.sub _ _ _ he)⟩) _ hm
    obtain ⟨i', j', e, _, _, hw⟩ := this
    simp only [Prod.mk.injEq] at e
    obtain ⟨rfl, rfl⟩ : i = i' ∧ j = j' := by omega
    exact hw
  · intro hw
    have : ∀ k i j, k ≤ 64 → i < 64 → j < 64 → War (E r) k i j → ((i : Int), (j : Int)) ∈ out := by
      intro n
      induction n with
      | zero => intro i j _ hi hj he; exact k.has _ ((h.bit hi hj).2 he)
      | succ n ih =>
        intro i j hn hi hj hw
        rcases hw with hw | ⟨h1, h2⟩
        · exact ih i j (by omega) hi hj hw
        · exact k.trans _ (ih n j (by omega) (by omega) hj h2) _ (ih i n (by omega) hi (by omega) h1)
    exact this 64 i j (Nat.le_refl _) hi hj hw
theorem Is.acyclic {r : Nat → Nat} {l out : List IPair} (h : Is r l) (k : Closed l out) : (out.all fun x : IPair => !(x.1 == x.2)) = acyR r := by
  have hc := h.closure k
  rw [Bool.eq_iff_iff, acyR_iff, List.all_eq_true]
  constructor
  · intro ha i hi he
    have := ha _ ((hc.bit hi hi).2 he)
    simp at this
  · rintro hn ⟨a, b⟩ hm
    obtain ⟨i, j, rfl, rfl, hi, hj, he⟩ := (hasR_iff _ a b).1 ((hc.mem a b).1 hm)
    by_cases e : i = j
    · subst e; exact absurd he (hn i hi)
    · simp only [Bool.not_eq_true', beq_eq_false_iff_ne]; omega
theorem Is.within {r t : Nat → Nat} {l m : List IPair} (h : Is r l) (k : Is t m) (okr : RelOK r) : (l.all fun p => hasP m p.1 p.2) = withinR r t := by
  rw [Bool.eq_iff_iff, withinR_iff r t okr, List.all_eq_true]
  constructor
  · intro ha i j hi hj he
    exact (k.bit hi hj).1 ((hasP_iff _ _ _).1 (ha _ ((h.bit hi hj).2 he)))
  · rintro hn ⟨a, b⟩ hm
    obtain ⟨i, j, rfl, rfl, hi, hj, he⟩ := (hasR_iff _ a b).1 ((h.mem a b).1 hm)
    exact (hasP_iff _ _ _).2 ((k.bit hi hj).2 (hn i j hi hj he))
end Go.Proofs.YtbpmcjndlbkkiaaDoor
