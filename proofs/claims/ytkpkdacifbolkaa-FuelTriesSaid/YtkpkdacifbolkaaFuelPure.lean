/- Plain numbers: three times all products up to a number, held at 2^62. No condition. -/
import Derived.Test.YtkpkdacifbolkaaKit
namespace Go.Proofs.Ytkpkdacifbolkaa
namespace Fuel

/-- The product, held at 2^62. -/
def times (a b : Int) : Int := min (a * b) 4611686018427387904
/-- 'lvl k': the product up to k + 1, three times. -/
def lvl : Nat → Int
  | 0 => 3
  | k + 1 => times (lvl k) (k + 2)
def of (n : Int) : Int := lvl (n - 1).toNat

theorem times_le (a b : Int) : times a b ≤ 4611686018427387904 := by unfold times; omega
theorem times_ge (a b : Int) (ha : 1 ≤ a) (ha2 : a ≤ 4611686018427387904) (hb : 1 ≤ b) : a ≤ times a b := by
  have : a * 1 ≤ a * b := Int.mul_le_mul_of_nonneg_left hb (by omega)
  unfold times
  omega
theorem lvl_bd (k : Nat) : 3 ≤ lvl k ∧ lvl k ≤ 4611686018427387904 := by
  induction k with
  | zero => decide
  | succ k ih =>
    have := times_ge (lvl k) (k + 2) (by omega) ih.2 (by omega)
    exact ⟨by show 3 ≤ times _ _; omega, times_le _ _⟩
theorem lvl_mono (k : Nat) : lvl k ≤ lvl (k + 1) := times_ge _ _ (by have := lvl_bd k; omega) (lvl_bd k).2 (by omega)
theorem lvl_top (k : Nat) (h : lvl k = 4611686018427387904) : lvl (k + 1) = 4611686018427387904 := by
  have := lvl_mono k
  have := lvl_bd (k + 1)
  omega
theorem lvl_top_from (k d : Nat) (h : lvl k = 4611686018427387904) : lvl (k + d) = 4611686018427387904 := by
  induction d with
  | zero => exact h
  | succ d ih => exact lvl_top _ ih
theorem lvl_20 : lvl 20 = 4611686018427387904 := by decide +kernel
theorem lvl_big (k : Nat) (h : 20 ≤ k) : lvl k = 4611686018427387904 := by
  obtain ⟨d, rfl⟩ : ∃ d, k = 20 + d := ⟨k - 20, by omega⟩
  exact lvl_top_from _ _ lvl_20
theorem of_bd (n : Int) : 3 ≤ of n ∧ of n ≤ 4611686018427387904 := lvl_bd _
theorem of_mono (n : Int) (h : 0 ≤ n) : of n ≤ of (n + 1) := by
  unfold of
  rcases Int.lt_or_le n 1 with h1 | h1
  · obtain rfl : n = 0 := by omega
    exact Int.le_refl _
  · rw [show (n + 1 - 1).toNat = (n - 1).toNat + 1 from by omega]
    exact lvl_mono _

/-- Whether the product is beyond 2^62, by a quotient. -/
theorem over {a b : Int} (ha : 1 ≤ a) (h : 4611686018427387904 / a < b) : 4611686018427387904 ≤ a * b := by
  have h1 : 4611686018427387904 < b * a := by
    rw [← Int.ediv_lt_iff_lt_mul (by omega)]; exact h
  rw [Int.mul_comm]; omega
theorem under {a b : Int} (ha : 1 ≤ a) (h : b ≤ 4611686018427387904 / a) : a * b ≤ 4611686018427387904 := by
  have := (Int.le_ediv_iff_mul_le (show 0 < a by omega)).1 h
  rw [Int.mul_comm]; exact this

theorem step_ref (k : Nat) : times (lvl (k - 1)) ((k : Int) + 1) = lvl (k + 1 - 1) := by
  cases k with
  | zero => decide
  | succ j =>
    show times (lvl j) (((j + 1 : Nat) : Int) + 1) = times (lvl j) ((j : Int) + 2)
    rw [show (((j + 1 : Nat) : Int) + 1) = (j : Int) + 2 from by omega]

/-- How often a next one is tried. -/
def tries : Nat → Nat
  | 0 => 0
  | n + 1 => (n + 1) * (1 + tries n)
theorem tries_le (k : Nat) (h : k < 9) : (tries k : Int) ≤ of k := by
  have : ∀ k : Fin 9, (tries k.val : Int) ≤ of k.val := by decide +kernel
  exact this ⟨k, h⟩
theorem tries_bd (k : Nat) (h : k < 9) : tries k ≤ 200000 := by
  have : ∀ k : Fin 9, tries k.val ≤ 200000 := by decide +kernel
  exact this ⟨k, h⟩

end Fuel
end Go.Proofs.Ytkpkdacifbolkaa
