/- Plain law: sets of numbers from 0 to 63 as bits of one number: with, without, the least one, how many, all. No condition. -/
import Derived.Test.YtbpmcjndlbkkiaaDoorKit
set_option linter.unusedVariables false
set_option linter.unusedSimpArgs false
namespace Go.Proofs.YtbpmcjndlbkkiaaDoor
open Go.RowKit
namespace Bits

theorem wrap_u64 (n : Int) (h0 : 0 ≤ n) (h1 : n < 2 ^ 64) : IntKind.u64.wrap n = n := by
  simp [IntKind.wrap, IntKind.bits, IntKind.signed]; omega
theorem and_u64 (a b : Nat) (ha : a < 2 ^ 64) (hb : b < 2 ^ 64) : bits .and .u64 a b = ((a &&& b : Nat) : Int) := (bits_nat .u64 64 (by decide) wrap_u64 a b ha hb).1
theorem or_u64 (a b : Nat) (ha : a < 2 ^ 64) (hb : b < 2 ^ 64) : bits .or .u64 a b = ((a ||| b : Nat) : Int) := (bits_nat .u64 64 (by decide) wrap_u64 a b ha hb).2
theorem andNot_u64 (a b : Nat) (ha : a < 2 ^ 64) (hb : b < 2 ^ 64) : bits .andNot .u64 a b = ((a ^^^ (a &&& b) : Nat) : Int) := by
  have h : ∀ x y : BitVec 64, x &&& ~~~y = x ^^^ (x &&& y) := by
    intro x y
    ext i hi
    simp
    cases x[i] <;> cases y[i] <;> rfl
  have h2 : bits .andNot .u64 a b = IntKind.u64.wrap ((BitVec.ofInt 64 (a : Int) &&& ~~~(BitVec.ofInt 64 (b : Int))).toNat : Int) := rfl
  rw [h2, h, BitVec.ofInt_natCast, BitVec.ofInt_natCast, BitVec.toNat_xor, BitVec.toNat_and, BitVec.toNat_ofNat, BitVec.toNat_ofNat, Nat.mod_eq_of_lt ha, Nat.mod_eq_of_lt hb]
  refine wrap_u64 _ (by omega) ?_
  have : a ^^^ (a &&& b) < 2 ^ 64 := Nat.xor_lt_two_pow ha (Nat.lt_of_le_of_lt Nat.and_le_left ha)
  omega

/-- With, without a number. -/
def put (s n : Nat) : Nat := s ||| 2 ^ n
def del (s n : Nat) : Nat := s ^^^ (s &&& 2 ^ n)
theorem put_lt (s n : Nat) (hs : s < 2 ^ 64) (hn : n < 64) : put s n < 2 ^ 64 := Nat.or_lt_two_pow hs (Nat.pow_lt_pow_right (by decide) hn)
theorem del_lt (s n : Nat) (hs : s < 2 ^ 64) : del s n < 2 ^ 64 := Nat.xor_lt_two_pow hs (Nat.lt_of_le_of_lt Nat.and_le_left hs)
theorem testBit_put (s n i : Nat) : (put s n).testBit i = (s.testBit i || decide (n = i)) := by
  unfold put; rw [Nat.testBit_or, Nat.testBit_two_pow]
theorem testBit_del (s n i : Nat) : (del s n).testBit i = (s.testBit i && !decide (n = i)) := by
  unfold del; rw [Nat.testBit_xor, Nat.testBit_and, Nat.testBit_two_pow]
  cases s.testBit i <;> cases decide (n = i) <;> rfl
theorem bit_div (s n : Nat) : (s / 2 ^ n % 2 = 1) ↔ s.testBit n = true := by
  rw [Nat.testBit_eq_decide_div_mod_eq]; simp
theorem high (s i : Nat) (hs : s < 2 ^ 64) (hi : 64 ≤ i) : s.testBit i = false :=
  Nat.testBit_lt_two_pow (Nat.lt_of_lt_of_le hs (Nat.pow_le_pow_right (by decide) hi))
theorem ext64 {s t : Nat} (hs : s < 2 ^ 64) (ht : t < 2 ^ 64) (h : ∀ i, i < 64 → s.testBit i = t.testBit i) : s = t := by
  refine Nat.eq_of_testBit_eq fun i => ?_
  by_cases hi : i < 64
  · exact h i hi
  · rw [high s i hs (by omega), high t i ht (by omega)]

theorem and_halves (a b : Nat) : a &&& b = 2 * (a / 2 &&& b / 2) + if a % 2 = 1 ∧ b % 2 = 1 then 1 else 0 := by
  have h1 := @Nat.and_div_two a b
  have h2 := @Nat.and_mod_two_eq_one a b
  split
  · rename_i h
    have := h2.2 h
    omega
  · rename_i h
    have : (a &&& b) % 2 = 0 := by
      rcases Nat.mod_two_eq_zero_or_one (a &&& b) with h3 | h3
      · exact h3
      · exact absurd (h2.1 h3) h
    omega
theorem and_compl (n a : Nat) (ha : a < 2 ^ n) : a &&& (2 ^ n - (a + 1)) = 0 := by
  refine Nat.eq_of_testBit_eq fun i => ?_
  rw [Nat.testBit_and, Nat.testBit_two_pow_sub_succ ha, Nat.zero_testBit]
  cases a.testBit i <;> simp
/-- The least one, by what Go's library does: 'x & -x' is a power of two. -/
theorem low (n : Nat) : ∀ x, x < 2 ^ n → x ≠ 0 → ∃ k, k < n ∧ x &&& (2 ^ n - x) = 2 ^ k ∧ x.testBit k = true ∧ ∀ j, j < k → x.testBit j = false := by
  induction n with
  | zero => intro x hx h; omega
  | succ n ih =>
    intro x hx h
    rw [Nat.pow_succ] at hx
    rcases Nat.mod_two_eq_zero_or_one x with he | ho
    · obtain ⟨k, h1, h2, h3, h4⟩ := ih (x / 2) (by omega) (by omega)
      refine ⟨k + 1, by omega, ?_, ?_, ?_⟩
      · rw [and_halves, show (2 ^ (n + 1) - x) / 2 = 2 ^ n - x / 2 from by rw [Nat.pow_succ]; omega, h2, if_neg (by omega), Nat.pow_succ]; omega
      · rw [Nat.testBit_succ]; exact h3
      · intro j hj
        cases j with
        | zero => simp [Nat.testBit_zero, he]
        | succ j => rw [Nat.testBit_succ]; exact h4 j (by omega)
    · refine ⟨0, by omega, ?_, by simp [Nat.testBit_zero, ho], fun j hj => by omega⟩
      rw [and_halves, show (2 ^ (n + 1) - x) / 2 = 2 ^ n - (x / 2 + 1) from by rw [Nat.pow_succ]; omega, and_compl n (x / 2) (by omega), if_pos ⟨ho, by rw [Nat.pow_succ]; omega⟩]

/-- The table of Go's library, and where it is looked into. -/
def table : List Int := [0, 1, 56, 2, 57, 49, 28, 3, 61, 58, 42, 50, 38, 29, 17, 4, 62, 47, 59, 36, 45, 43, 51, 22, 53, 39, 33, 30, 24, 18, 12, 5, 63, 55, 48, 27, 60, 41, 37, 16, 46, 35, 44, 21, 52, 32, 23, 11, 54, 26, 40, 15, 34, 20, 31, 10, 25, 14, 19, 9, 13, 8, 7, 6]
theorem table_at (k : Nat) (hk : k < 64) : table.getD (2 ^ k * 285870213051353865 % 18446744073709551616 / 288230376151711744) 0 = (k : Int) := by
  have : ∀ k : Fin 64, table.getD (2 ^ k.val * 285870213051353865 % 18446744073709551616 / 288230376151711744) 0 = (k.val : Int) := by decide +kernel
  exact this ⟨k, hk⟩

/-- The least number of a set; 64: there is none. -/
def least (s : Nat) : Nat := ((List.range 64).find? fun i => s.testBit i).getD 64
theorem least_zero : least 0 = 64 := by decide
theorem least_at (s k : Nat) (hk : k < 64) (h : s.testBit k = true) (hn : ∀ j, j < k → s.testBit j = false) : least s = k := by
  unfold least
  rw [(List.find?_range_eq_some (p := fun i => s.testBit i)).2 ⟨h, by simp [hk], fun j hj => by simp [hn j hj]⟩]
  rfl
theorem least_spec (s : Nat) (hs : s < 2 ^ 64) (h : s ≠ 0) : least s < 64 ∧ s.testBit (least s) = true ∧ ∀ j, j < least s → s.testBit j = false := by
  obtain ⟨k, h1, _, h3, h4⟩ := low 64 s hs h
  rw [least_at s k h1 h3 h4]
  exact ⟨h1, h3, h4⟩
theorem least_low (s : Nat) (hs : s < 2 ^ 64) (h : s ≠ 0) : s &&& (18446744073709551616 - s) = 2 ^ least s := by
  obtain ⟨k, h1, h2, h3, h4⟩ := low 64 s hs h
  rw [least_at s k h1 h3 h4]
  exact h2

/-- All numbers of a set, rising. -/
def list (s : Nat) : List Nat := (List.range 64).filter fun i => s.testBit i
def count (s : Nat) : Nat := (list s).length
theorem list_zero : list 0 = [] := by decide
theorem filter_range_least (n : Nat) (p : Nat → Bool) (k : Nat) (hk : k < n) (h : p k = true) (hn : ∀ j, j < k → p j = false) :
    (List.range n).filter p = k :: (List.range n).filter fun i => p i && !decide (k = i) := by
  have h1 : List.range n = List.range k ++ k :: List.range' (k + 1) (n - k - 1) := by
    rw [List.range_eq_range', List.range_eq_range', ← List.range'_succ, show n - k - 1 + 1 = n - k from by omega]
    have := @List.range'_append 0 k (n - k) 1
    simp only [Nat.one_mul, Nat.zero_add] at this
    rw [this, show k + (n - k) = n from by omega]
  rw [h1, List.filter_append, List.filter_append, List.filter_cons, List.filter_cons, if_pos h, if_neg (by simp)]
  have h2 : (List.range k).filter p = [] := List.filter_eq_nil_iff.2 fun j hj => by rw [hn j (List.mem_range.1 hj)]; decide
  have h3 : (List.range k).filter (fun i => p i && !decide (k = i)) = [] := List.filter_eq_nil_iff.2 fun j hj => by rw [hn j (List.mem_range.1 hj)]; simp
  rw [h2, h3]
  simp only [List.nil_append, List.cons.injEq, true_and]
  refine List.filter_congr fun j hj => ?_
  have : k + 1 ≤ j := (List.mem_range'_1.1 hj).1
  rw [decide_eq_false (by omega)]; simp
theorem list_step (s : Nat) (hs : s < 2 ^ 64) (h : s ≠ 0) : list s = least s :: list (del s (least s)) := by
  obtain ⟨h1, h2, h3⟩ := least_spec s hs h
  unfold list
  rw [filter_range_least 64 (fun i => s.testBit i) (least s) h1 h2 h3]
  congr 1
  refine List.filter_congr fun i _ => ?_
  rw [testBit_del]
theorem list_len (s : Nat) : (list s).length ≤ 64 := by
  have := List.length_filter_le (fun i => s.testBit i) (List.range 64)
  unfold list
  simpa using this
theorem list_nil (s : Nat) (hs : s < 2 ^ 64) : list s = [] ↔ s = 0 := by
  constructor
  · intro h
    by_cases h0 : s = 0
    · exact h0
    · rw [list_step s hs h0] at h; cases h
  · rintro rfl; exact list_zero
theorem mem_list (s i : Nat) : i ∈ list s ↔ i < 64 ∧ s.testBit i = true := by
  unfold list; simp [List.mem_filter]
end Bits
end Go.Proofs.YtbpmcjndlbkkiaaDoor
