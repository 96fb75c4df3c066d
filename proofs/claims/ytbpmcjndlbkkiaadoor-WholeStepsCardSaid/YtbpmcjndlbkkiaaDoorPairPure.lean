/- Plain law: pairs put together, once each; one step of the closure. No condition. -/
import Derived.Test.YtbpmcjndlbkkiaaDoorPair3
set_option linter.unusedVariables false
set_option linter.unusedSimpArgs false
namespace Go.Proofs.YtbpmcjndlbkkiaaDoor
open Go.RowKit

theorem hasP_iff (l : List IPair) (a b : Int) : hasP l a b = true ↔ (a, b) ∈ l := by
  unfold hasP
  rw [List.any_eq_true]
  constructor
  · rintro ⟨⟨x, y⟩, h, hp⟩
    simp only [Bool.and_eq_true, beq_iff_eq] at hp
    rw [← hp.1, ← hp.2]; exact h
  · intro h
    exact ⟨(a, b), h, by simp⟩
theorem mem_putP (l : List IPair) (a b : Int) (x : IPair) : x ∈ putP l a b ↔ x ∈ l ∨ x = (a, b) := by
  unfold putP
  by_cases h : hasP l a b = true
  · rw [if_pos h]
    constructor
    · exact .inl
    · rintro (h2 | rfl)
      · exact h2
      · exact (hasP_iff l a b).1 h
  · rw [if_neg h]; simp
theorem nodup_putP (l : List IPair) (a b : Int) (h : l.Nodup) : (putP l a b).Nodup := by
  unfold putP
  by_cases hh : hasP l a b = true
  · rw [if_pos hh]; exact h
  · rw [if_neg hh, List.nodup_append]
    refine ⟨h, by simp, ?_⟩
    intro x hx y hy
    simp only [List.mem_singleton] at hy
    subst hy
    intro e
    subst e
    exact hh ((hasP_iff l a b).2 hx)

theorem mem_thenStep (p : IPair) (out : List IPair) (q x : IPair) : x ∈ thenStep p out q ↔ x ∈ out ∨ (p.2 = q.1 ∧ x = (p.1, q.2)) := by
  unfold thenStep
  by_cases h : (p.2 == q.1) = true
  · rw [if_pos h, mem_putP]
    have : p.2 = q.1 := by simpa using h
    simp [this]
  · rw [if_neg h]
    have : ¬ p.2 = q.1 := by simpa using h
    simp [this]
theorem mem_foldStep (p x : IPair) : ∀ (m out : List IPair), x ∈ m.foldl (thenStep p) out ↔ x ∈ out ∨ ∃ q ∈ m, p.2 = q.1 ∧ x = (p.1, q.2)
  | [], out => by simp
  | q :: m, out => by
    rw [List.foldl_cons, mem_foldStep p x m, mem_thenStep]
    constructor
    · rintro ((h | h) | ⟨q', h1, h2⟩)
      · exact .inl h
      · exact .inr ⟨q, by simp, h⟩
      · exact .inr ⟨q', by simp [h1], h2⟩
    · rintro (h | ⟨q', h1, h2⟩)
      · exact .inl (.inl h)
      · rcases List.mem_cons.1 h1 with rfl | h1
        · exact .inl (.inr h2)
        · exact .inr ⟨q', h1, h2⟩
theorem mem_foldThen (m : List IPair) (x : IPair) : ∀ (l out : List IPair), x ∈ l.foldl (fun out p => thenIn p m out m.length) out ↔ x ∈ out ∨ ∃ p ∈ l, ∃ q ∈ m, p.2 = q.1 ∧ x = (p.1, q.2)
  | [], out => by simp
  | p :: l, out => by
    rw [List.foldl_cons, mem_foldThen m x l]
    unfold thenIn
    rw [List.take_length, mem_foldStep]
    constructor
    · rintro ((h | h) | ⟨p', h1, h2⟩)
      · exact .inl h
      · exact .inr ⟨p, by simp, h⟩
      · exact .inr ⟨p', by simp [h1], h2⟩
    · rintro (h | ⟨p', h1, h2⟩)
      · exact .inl (.inl h)
      · rcases List.mem_cons.1 h1 with rfl | h1
        · exact .inl (.inr h2)
        · exact .inr ⟨p', h1, h2⟩
theorem mem_thenP (l m : List IPair) (x : IPair) : x ∈ thenP l m l.length ↔ ∃ p ∈ l, ∃ q ∈ m, p.2 = q.1 ∧ x = (p.1, q.2) := by
  unfold thenP
  rw [List.take_length, mem_foldThen]
  simp

/-- Pairs put one by one behind others. -/
def addTo (out more : List IPair) (k : Nat) : List IPair := (more.take k).foldl (fun o p => putP o p.1 p.2) out
theorem addTo_zero (out more : List IPair) : addTo out more 0 = out := rfl
theorem addTo_succ (out more : List IPair) (k : Nat) (h : k < more.length) : addTo out more (k + 1) = putP (addTo out more k) (more.getD k (0, 0)).1 (more.getD k (0, 0)).2 := by
  unfold addTo
  rw [List.take_add_one, List.getElem?_eq_getElem h, List.foldl_append, List.getD_eq_getElem?_getD, List.getElem?_eq_getElem h]
  rfl
theorem mem_foldPut (x : IPair) : ∀ (more out : List IPair), x ∈ more.foldl (fun o p => putP o p.1 p.2) out ↔ x ∈ out ∨ x ∈ more
  | [], out => by simp
  | p :: more, out => by
    rw [List.foldl_cons, mem_foldPut x more, mem_putP, List.mem_cons, or_assoc]
theorem mem_addTo (out more : List IPair) (x : IPair) : x ∈ addTo out more more.length ↔ x ∈ out ∨ x ∈ more := by
  unfold addTo
  rw [List.take_length, mem_foldPut]
theorem nodup_foldPut : ∀ (more out : List IPair), out.Nodup → (more.foldl (fun o p => putP o p.1 p.2) out).Nodup
  | [], out, h => h
  | p :: more, out, h => nodup_foldPut more _ (nodup_putP out _ _ h)
theorem nodup_addTo (out more : List IPair) (k : Nat) (h : out.Nodup) : (addTo out more k).Nodup := nodup_foldPut _ _ h
theorem putP_ge (l : List IPair) (a b : Int) : l.length ≤ (putP l a b).length := by
  unfold putP
  split <;> simp
theorem foldPut_ge : ∀ (more out : List IPair), out.length ≤ (more.foldl (fun o p => putP o p.1 p.2) out).length
  | [], out => Nat.le_refl _
  | p :: more, out => Nat.le_trans (putP_ge out _ _) (foldPut_ge more _)
theorem foldPut_same : ∀ (more out : List IPair), (more.foldl (fun o p => putP o p.1 p.2) out).length = out.length → ∀ x ∈ more, x ∈ out
  | [], out, _, x, hx => by cases hx
  | p :: more, out, h, x, hx => by
    rw [List.foldl_cons] at h
    have h1 := foldPut_ge more (putP out p.1 p.2)
    have h2 := putP_ge out p.1 p.2
    have h3 : (putP out p.1 p.2).length = out.length := by omega
    have hp : p ∈ out := by
      by_cases hh : hasP out p.1 p.2 = true
      · exact (hasP_iff _ _ _).1 hh
      · unfold putP at h3; rw [if_neg hh] at h3; simp at h3
    have h4 : putP out p.1 p.2 = out := by unfold putP; rw [if_pos ((hasP_iff _ _ _).2 hp)]
    rw [h4] at h
    rcases List.mem_cons.1 hx with rfl | hx
    · exact hp
    · exact foldPut_same more out h x hx

theorem nodup_le : ∀ (a b : List IPair), a.Nodup → (∀ x ∈ a, x ∈ b) → a.length ≤ b.length
  | [], b, _, _ => by simp
  | x :: a, b, h, hs => by
    have hx : x ∈ b := hs x (by simp)
    rw [List.nodup_cons] at h
    have := nodup_le a (b.erase x) h.2 (fun y hy => by
      have hne : y ≠ x := fun e => h.1 (e ▸ hy)
      exact (List.mem_erase_of_ne hne).2 (hs y (by simp [hy])))
    rw [List.length_erase_of_mem hx] at this
    have hpos : 0 < b.length := List.length_pos_of_mem hx
    rw [List.length_cons]
    omega
end Go.Proofs.YtbpmcjndlbkkiaaDoor
