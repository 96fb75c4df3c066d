/- The document's account of a transaction: what is read of others. No condition but each theorem's own. -/
import Derived.Test.YtobfanodjdkkoaaDoorRef05
set_option linter.unusedVariables false
set_option linter.unusedSimpArgs false
namespace Go.Proofs.YtobfanodjdkkoaaDoor
open Go.RowKit Go.Maps

/-! ### Plain -/
/-- Of one key, of the first i: what is read of others. -/
def readsK (xs : List Opn) (k : Int) : Nat → List Opn
  | 0 => []
  | i + 1 => if (xs.getD i opZero).key = k ∧ readAt xs i = true then readsK xs k i ++ [xs.getD i opZero] else readsK xs k i
/-- .. of the first keys, key by key. -/
def readsR (xs : List Opn) : Nat → List Opn
  | 0 => []
  | k + 1 => readsR xs k ++ readsK xs (k : Int) xs.length
theorem readsK_succ (xs : List Opn) (k : Int) (i : Nat) : readsK xs k (i + 1) = if (xs.getD i opZero).key = k ∧ readAt xs i = true then readsK xs k i ++ [xs.getD i opZero] else readsK xs k i := rfl
theorem lastAt_none (xs : List Opn) (k : Int) : ∀ i, lastAt xs i k = none ↔ ∀ j, j < i → (xs.getD j opZero).key ≠ k
  | 0 => ⟨fun _ j h => (by omega), fun _ => rfl⟩
  | i + 1 => by
    show (if (xs.getD i opZero).key = k then some (xs.getD i opZero) else lastAt xs i k) = none ↔ _
    by_cases e : (xs.getD i opZero).key = k
    · rw [if_pos e]
      exact ⟨fun h => (by cases h), fun h => absurd e (h i (by omega))⟩
    · rw [if_neg e, lastAt_none xs k i]
      exact ⟨fun h j hj => (by
        by_cases e2 : j = i
        · rw [e2]; exact e
        · exact h j (by omega)), fun h j hj => h j (by omega)⟩
theorem readAt_first {xs : List Opn} {i j : Nat} (h : readAt xs i = true) (hj : j < i) : (xs.getD j opZero).key ≠ (xs.getD i opZero).key := by
  unfold readAt at h
  rw [Bool.and_eq_true, Option.isNone_iff_eq_none] at h
  exact (lastAt_none xs _ i).1 h.1 j hj
theorem mem_readsTo (xs : List Opn) (x : Opn) : ∀ i, x ∈ readsTo xs i ↔ ∃ j, j < i ∧ readAt xs j = true ∧ xs.getD j opZero = x
  | 0 => ⟨fun h => (by cases h), fun ⟨j, h, _⟩ => (by omega)⟩
  | i + 1 => by
    rw [readsTo_succ]
    have ih := mem_readsTo xs x i
    by_cases e : readAt xs i = true
    · rw [if_pos e, List.mem_append, ih, List.mem_singleton]
      constructor
      · rintro (⟨j, h1, h2⟩ | rfl)
        · exact ⟨j, by omega, h2⟩
        · exact ⟨i, by omega, e, rfl⟩
      · rintro ⟨j, h1, h2, h3⟩
        by_cases e2 : j = i
        · subst e2; exact .inr h3.symm
        · exact .inl ⟨j, by omega, h2, h3⟩
    · rw [if_neg e, ih]
      constructor
      · rintro ⟨j, h1, h2⟩; exact ⟨j, by omega, h2⟩
      · rintro ⟨j, h1, h2, h3⟩
        by_cases e2 : j = i
        · subst e2; exact absurd h2 e
        · exact ⟨j, by omega, h2, h3⟩
theorem mem_readsK (xs : List Opn) (k : Int) (x : Opn) : ∀ i, x ∈ readsK xs k i ↔ x.key = k ∧ ∃ j, j < i ∧ readAt xs j = true ∧ xs.getD j opZero = x
  | 0 => ⟨fun h => (by cases h), fun ⟨_, j, h, _⟩ => (by omega)⟩
  | i + 1 => by
    rw [readsK_succ]
    have ih := mem_readsK xs k x i
    by_cases e : (xs.getD i opZero).key = k ∧ readAt xs i = true
    · rw [if_pos e, List.mem_append, ih, List.mem_singleton]
      constructor
      · rintro (⟨h0, j, h1, h2⟩ | rfl)
        · exact ⟨h0, j, by omega, h2⟩
        · exact ⟨e.1, i, by omega, e.2, rfl⟩
      · rintro ⟨h0, j, h1, h2, h3⟩
        by_cases e2 : j = i
        · subst e2; exact .inr h3.symm
        · exact .inl ⟨h0, j, by omega, h2, h3⟩
    · rw [if_neg e, ih]
      constructor
      · rintro ⟨h0, j, h1, h2⟩; exact ⟨h0, j, by omega, h2⟩
      · rintro ⟨h0, j, h1, h2, h3⟩
        by_cases e2 : j = i
        · subst e2; exact absurd ⟨by rw [h3]; exact h0, h2⟩ e
        · exact ⟨h0, j, by omega, h2, h3⟩
theorem mem_readsR (xs : List Opn) (x : Opn) : ∀ k : Nat, x ∈ readsR xs k ↔ (0 ≤ x.key ∧ x.key < k) ∧ x ∈ readsTo xs xs.length
  | 0 => ⟨fun h => (by cases h), fun h => (by omega)⟩
  | k + 1 => by
    show x ∈ readsR xs k ++ readsK xs (k : Int) xs.length ↔ _
    rw [List.mem_append, mem_readsR xs x k, mem_readsK, mem_readsTo]
    constructor
    · rintro (⟨h1, h2⟩ | ⟨h1, h2⟩)
      · exact ⟨by omega, h2⟩
      · exact ⟨by omega, h2⟩
    · rintro ⟨h1, h2⟩
      by_cases e : x.key = (k : Int)
      · exact .inr ⟨e, h2⟩
      · exact .inl ⟨by omega, h2⟩
theorem readsK_one (xs : List Opn) (k : Int) : ∀ i, (readsK xs k i).Pairwise (fun x y => x.key < y.key)
  | 0 => List.Pairwise.nil
  | i + 1 => by
    rw [readsK_succ]
    by_cases e : (xs.getD i opZero).key = k ∧ readAt xs i = true
    · rw [if_pos e]
      have : readsK xs k i = [] := by
        rw [List.eq_nil_iff_forall_not_mem]
        intro x hx
        obtain ⟨h0, j, h1, h2, h3⟩ := (mem_readsK xs k x i).1 hx
        have := readAt_first e.2 h1
        rw [h3, h0, e.1] at this
        exact this rfl
      rw [this]
      exact List.pairwise_singleton _ _
    · rw [if_neg e]; exact readsK_one xs k i
theorem readsR_rise (xs : List Opn) : ∀ k : Nat, (readsR xs k).Pairwise (fun x y => x.key < y.key)
  | 0 => List.Pairwise.nil
  | k + 1 => by
    show (readsR xs k ++ readsK xs (k : Int) xs.length).Pairwise _
    rw [List.pairwise_append]
    refine ⟨readsR_rise xs k, readsK_one xs _ _, fun x hx y hy => ?_⟩
    have h1 := ((mem_readsR xs x k).1 hx).1
    have h2 := ((mem_readsK xs _ y _).1 hy).1
    omega
theorem readsTo_one (xs : List Opn) : ∀ i, ((readsTo xs i).map Opn.key).Nodup
  | 0 => List.nodup_nil
  | i + 1 => by
    rw [readsTo_succ]
    by_cases e : readAt xs i = true
    · rw [if_pos e, List.map_append, List.nodup_append]
      refine ⟨readsTo_one xs i, by simp, fun a ha b hb e2 => ?_⟩
      rw [List.map_singleton, List.mem_singleton] at hb
      obtain ⟨x, hx, rfl⟩ := List.mem_map.1 ha
      obtain ⟨j, h1, h2, h3⟩ := (mem_readsTo xs x i).1 hx
      have := readAt_first e h1
      rw [h3, e2, hb] at this
      exact this rfl
    · rw [if_neg e]; exact readsTo_one xs i
/-- All keys are among the first 64. -/
def Keys64 (xs : List Opn) : Prop := ∀ i, i < xs.length → 0 ≤ (xs.getD i opZero).key ∧ (xs.getD i opZero).key < 64
theorem reads_is {xs ys : List Opn} (hk : Keys64 xs) (h : Sorts (readsTo xs xs.length) ys) : ys = readsR xs 64 :=
  h.eq (readsTo_one xs _) (readsR_rise xs 64) fun x => by
    rw [mem_readsR]
    refine ⟨fun h => h.2, fun h => ⟨?_, h⟩⟩
    obtain ⟨j, h1, _, h3⟩ := (mem_readsTo xs x _).1 h
    have := hk j h1
    rw [h3] at this
    exact this
theorem readsK_len (xs : List Opn) (k : Int) : ∀ i, (readsK xs k i).length ≤ i
  | 0 => Nat.le_refl _
  | i + 1 => by
    have := readsK_len xs k i
    rw [readsK_succ]
    split
    · rw [List.length_append]; simp; omega
    · omega
theorem readsR_len (xs : List Opn) : ∀ k : Nat, (readsR xs k).length ≤ k * xs.length
  | 0 => by simp [readsR]
  | k + 1 => by
    show (readsR xs k ++ readsK xs (k : Int) xs.length).length ≤ _
    rw [List.length_append, Nat.succ_mul]
    have := readsR_len xs k
    have := readsK_len xs (k : Int) xs.length
    omega
end Go.Proofs.YtobfanodjdkkoaaDoor
