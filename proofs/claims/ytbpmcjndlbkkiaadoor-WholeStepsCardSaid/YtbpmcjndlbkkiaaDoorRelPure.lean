/- Plain law: Warshall's steps come to the least transitive relation. No condition. -/
import Derived.Test.YtbpmcjndlbkkiaaDoorRel2
set_option linter.unusedVariables false
set_option linter.unusedSimpArgs false
namespace Go.Proofs.YtbpmcjndlbkkiaaDoor
open Go.RowKit

/-- Warshall's relation, in words. -/
def War (E : Nat → Nat → Prop) : Nat → Nat → Nat → Prop
  | 0, i, j => E i j
  | k + 1, i, j => War E k i j ∨ (War E k i k ∧ War E k k j)
theorem War.sub {E : Nat → Nat → Prop} : ∀ k i j, E i j → War E k i j
  | 0, _, _, h => h
  | k + 1, i, j, h => .inl (War.sub k i j h)
theorem War.least {E T : Nat → Nat → Prop} (hE : ∀ i j, E i j → T i j) (hT : ∀ i j k, T i j → T j k → T i k) : ∀ k i j, War E k i j → T i j
  | 0, i, j, h => hE i j h
  | k + 1, i, j, .inl h => War.least hE hT k i j h
  | k + 1, i, j, .inr ⟨h1, h2⟩ => hT i k j (War.least hE hT k i k h1) (War.least hE hT k k j h2)
theorem War.trans {E : Nat → Nat → Prop} : ∀ k i m j, m < k → War E k i m → War E k m j → War E k i j
  | 0, _, _, _, h, _, _ => absurd h (by omega)
  | k + 1, i, m, j, hm, h1, h2 => by
    by_cases e : m = k
    · subst e
      have a : War E m i m := by rcases h1 with h | ⟨h, _⟩ <;> exact h
      have b : War E m m j := by rcases h2 with h | ⟨_, h⟩ <;> exact h
      exact .inr ⟨a, b⟩
    · have hk : m < k := by omega
      rcases h1 with h1 | ⟨h1, h1'⟩ <;> rcases h2 with h2 | ⟨h2, h2'⟩
      · exact .inl (War.trans k i m j hk h1 h2)
      · exact .inr ⟨War.trans k i m k hk h1 h2, h2'⟩
      · exact .inr ⟨h1, War.trans k k m j hk h1' h2⟩
      · exact .inr ⟨h1, h2'⟩
theorem innerC_row (r : Nat → Nat) (k : Nat) : ∀ i j, innerC r k i j = if j < i then (if hasS (r j) (k : Int) then r j ||| r k else r j) else r j
  | 0, j => by simp [innerC]
  | i + 1, j => by
    have hk : innerC r k i k = r k := by
      rw [innerC_row r k i k]
      split
      · split <;> simp
      · rfl
    have hi : innerC r k i i = r i := by rw [innerC_row r k i i, if_neg (by omega)]
    unfold innerC
    rw [hi, hk]
    by_cases hh : hasS (r i) (k : Int) = true
    · rw [if_pos hh]
      unfold rowSet
      by_cases e : j = i
      · subst e
        rw [if_pos rfl, if_pos (by omega), if_pos hh]
      · rw [if_neg e, innerC_row r k i j]
        by_cases h2 : j < i
        · simp [h2, show j < i + 1 from by omega]
        · simp [h2, show ¬ j < i + 1 from by omega]
    · rw [if_neg hh, innerC_row r k i j]
      by_cases e : j = i
      · subst e
        rw [if_neg (by omega), if_pos (by omega), if_neg hh]
      · by_cases h2 : j < i
        · simp [h2, show j < i + 1 from by omega]
        · simp [h2, show ¬ j < i + 1 from by omega]

theorem hasS_nat (s k : Nat) (hk : k < 64) : hasS s (k : Int) = s.testBit k := by
  unfold hasS inS
  rw [decide_eq_true (by omega)]
  simp
/-- What the steps come to, bit by bit. -/
theorem closeR_war (r : Nat → Nat) : ∀ k, k ≤ 64 → ∀ i j, i < 64 → j < 64 → ((closeR r k i).testBit j = true ↔ War (fun a b => (r a).testBit b = true) k i j)
  | 0, _, i, j, _, _ => Iff.rfl
  | k + 1, hk, i, j, hi, hj => by
    have ih := closeR_war r k (by omega)
    show (innerC (closeR r k) k 64 i).testBit j = true ↔ _
    rw [innerC_row, if_pos hi, hasS_nat _ _ (by omega)]
    unfold War
    rw [← ih i j hi hj, ← ih i k hi (by omega), ← ih k j (by omega) hj]
    by_cases h : (closeR r k i).testBit k = true
    · rw [if_pos h, Nat.testBit_or, Bool.or_eq_true]
      simp [h]
    · rw [if_neg h]
      simp [h]
end Go.Proofs.YtbpmcjndlbkkiaaDoor
