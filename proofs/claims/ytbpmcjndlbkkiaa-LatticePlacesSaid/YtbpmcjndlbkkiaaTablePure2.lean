/- Plain law: rows of levels, and the lists of them: closed, the strongest, what is below them. No condition. -/
import Derived.Test.YtbpmcjndlbkkiaaTable4
set_option linter.unusedVariables false
set_option linter.unusedSimpArgs false
namespace Go.Proofs.Ytbpmcjndlbkkiaa
open Go.RowKit

def listR (r : Nat → Bool) : List Int := ((List.range 12).filter r).map fun i : Nat => (i : Int)
theorem mem_listR (r : Nat → Bool) (x : Int) : x ∈ listR r ↔ ∃ i : Nat, i < 12 ∧ r i = true ∧ x = (i : Int) := by
  unfold listR
  simp only [List.mem_map, List.mem_filter, List.mem_range]
  constructor
  · rintro ⟨i, ⟨h1, h2⟩, h3⟩; exact ⟨i, h1, h2, h3.symm⟩
  · rintro ⟨i, h1, h2, h3⟩; exact ⟨i, ⟨h1, h2⟩, h3.symm⟩
theorem hasL_listR (r : Nat → Bool) (b : Nat) (hb : b < 12) : hasL (listR r) b = r b := by
  rw [Bool.eq_iff_iff]
  unfold hasL
  rw [List.any_eq_true]
  constructor
  · rintro ⟨x, hx, h⟩
    obtain ⟨i, h1, h2, h3⟩ := (mem_listR r x).1 hx
    have : x = (b : Int) := by simpa using h
    have : i = b := by omega
    rw [← this]; exact h2
  · intro h
    exact ⟨(b : Int), (mem_listR r _).2 ⟨b, hb, h, rfl⟩, by simp⟩
theorem closed_rows (r : Nat → Bool) : closedF r = refClosed (listR r) := by
  rw [Bool.eq_iff_iff]
  unfold closedF closedTo refClosed
  simp only [List.all_eq_true, List.mem_range]
  constructor
  · intro h x hx b hb
    obtain ⟨i, h1, h2, rfl⟩ := (mem_listR r x).1 hx
    have := h i h1 b hb
    unfold rowOk
    rw [hasL_listR r b hb]
    simpa [rowC, h2] using this
  · intro h a ha b hb
    cases hra : r a with
    | false => simp [rowC, hra]
    | true =>
      have := h a ((mem_listR r _).2 ⟨a, ha, hra, rfl⟩) b hb
      unfold rowOk at this
      rw [hasL_listR r b hb] at this
      simpa [rowC, hra] using this
theorem topB_listR (r : Nat → Bool) (i : Nat) : (topB (listR r) i && r i) = topR r i 12 := by
  unfold topR topB
  rw [Bool.and_comm]
  congr 1
  rw [Bool.eq_iff_iff, List.all_eq_true, List.all_eq_true]
  constructor
  · intro h a ha
    rw [List.mem_range] at ha
    cases hra : r a with
    | false => simp [topC, hra]
    | true =>
      have := h a ((mem_listR r _).2 ⟨a, ha, hra, rfl⟩)
      by_cases e : a = i
      · simp [topC, e]
      · have hne : ((a : Int) != (i : Int)) = true := by simp; omega
        rw [hne] at this
        simpa [topC, hra, e] using this
  · intro h x hx
    obtain ⟨a, h1, h2, rfl⟩ := (mem_listR r x).1 hx
    have := h a (List.mem_range.2 h1)
    by_cases e : a = i
    · simp [e]
    · have h4 : impl (a : Int) (i : Int) = false := by simpa [topC, h2, e] using this
      simp [h4]
theorem strong_rows (r : Nat → Bool) : strongR r = strongL (listR r) := by
  unfold strongR strongTo strongL
  conv => rhs; rw [listR]
  rw [List.filter_map]
  congr 1
  rw [List.filter_filter]
  refine List.filter_congr fun i _ => ?_
  exact (topB_listR r i).symm

/-- How many levels one implies. -/
def downN (a : Nat) : Nat := ((List.range 12).filter fun b : Nat => impl (a : Int) (b : Int)).length
theorem downN_lt (a c : Nat) (ha : a < 12) (hc : c < 12) (h : impl c a = true) (hne : c ≠ a) : downN a < downN c := by
  have : ∀ a c : Fin 12, impl c.val a.val = true → c ≠ a → downN a.val < downN c.val := by decide +kernel
  exact this ⟨a, ha⟩ ⟨c, hc⟩ h (by simpa using hne)
theorem downN_le (a : Nat) : downN a ≤ 12 := by
  have := List.length_filter_le (fun b => impl (a : Int) (b : Nat)) (List.range 12)
  unfold downN
  simpa using this
theorem strong_over (r : Nat → Bool) (d : Nat) : ∀ a, a < 12 → r a = true → 12 - downN a ≤ d → ∃ s, s < 12 ∧ topR r s 12 = true ∧ impl s a = true := by
  induction d with
  | zero =>
    intro a ha hr hd
    refine ⟨a, ha, ?_, impl_refl a (by omega) (by omega)⟩
    unfold topR
    rw [hr, Bool.true_and, List.all_eq_true]
    intro c hc
    rw [List.mem_range] at hc
    unfold topC
    by_cases e : c = a
    · simp [e]
    · cases h2 : impl c a with
      | false => simp
      | true =>
        have := downN_lt a c ha hc h2 e
        have := downN_le c
        omega
  | succ d ih =>
    intro a ha hr hd
    cases ht : topR r a 12 with
    | true => exact ⟨a, ha, ht, impl_refl a (by omega) (by omega)⟩
    | false =>
      unfold topR at ht
      rw [hr, Bool.true_and, List.all_eq_false] at ht
      obtain ⟨c, hc, hcc⟩ := ht
      rw [List.mem_range] at hc
      have h3 : topC r a c = false := by simpa using hcc
      unfold topC at h3
      simp only [Bool.or_eq_false_iff, Bool.not_eq_false', beq_eq_false_iff_ne] at h3
      have := downN_lt a c ha hc h3.2 h3.1.1
      obtain ⟨s, h4, h5, h6⟩ := ih c hc h3.1.2 (by omega)
      exact ⟨s, h4, h5, impl_trans s c a (by omega) (by omega) (by omega) (by omega) (by omega) (by omega) h6 h3.2⟩
theorem mem_strongR (r : Nat → Bool) (x : Int) : x ∈ strongR r ↔ ∃ i : Nat, i < 12 ∧ topR r i 12 = true ∧ x = (i : Int) := mem_listR (fun b => topR r b 12) x
theorem below_rows (r : Nat → Bool) (b : Nat) (hb : b < 12) : belowF (strongR r) b = (listR r).any fun a => impl a b := by
  rw [Bool.eq_iff_iff]
  unfold belowF
  rw [List.any_eq_true, List.any_eq_true]
  constructor
  · rintro ⟨x, hx, h⟩
    obtain ⟨i, h1, h2, rfl⟩ := (mem_strongR r x).1 hx
    refine ⟨i, (mem_listR r _).2 ⟨i, h1, ?_, rfl⟩, h⟩
    unfold topR at h2
    rw [Bool.and_eq_true] at h2
    exact h2.1
  · rintro ⟨x, hx, h⟩
    obtain ⟨i, h1, h2, rfl⟩ := (mem_listR r x).1 hx
    obtain ⟨s, h4, h5, h6⟩ := strong_over r 12 i h1 h2 (by omega)
    exact ⟨s, (mem_strongR r _).2 ⟨s, h4, h5, rfl⟩, impl_trans s i b (by omega) (by omega) (by omega) (by omega) (by omega) (by omega) h6 h⟩
theorem below_closed (r : Nat → Bool) (h : closedF r = true) (b : Nat) (hb : b < 12) : belowF (strongR r) b = r b := by
  rw [below_rows r b hb, Bool.eq_iff_iff, List.any_eq_true]
  constructor
  · rintro ⟨x, hx, h2⟩
    obtain ⟨i, h3, h4, rfl⟩ := (mem_listR r x).1 hx
    unfold closedF closedTo at h
    rw [List.all_eq_true] at h
    have h5 := h i (List.mem_range.2 h3)
    rw [List.all_eq_true] at h5
    have h6 := h5 b (List.mem_range.2 hb)
    simpa [rowC, h4, h2] using h6
  · intro hr
    exact ⟨b, (mem_listR r _).2 ⟨b, hb, hr, rfl⟩, impl_refl b (by omega) (by omega)⟩
end Go.Proofs.Ytbpmcjndlbkkiaa
