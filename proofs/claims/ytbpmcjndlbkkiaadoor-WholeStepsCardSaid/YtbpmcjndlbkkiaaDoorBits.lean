/- Two functions of Go's library on bits come to plain numbers: how many bits are set, and the least one. Of the second: where the library's table reads as its text lays it. -/
import Derived.Test.YtbpmcjndlbkkiaaDoorPop
import Derived.Test.YtbpmcjndlbkkiaaDoorArr
set_option linter.unusedVariables false
set_option linter.unusedSimpArgs false
namespace Go.Proofs.YtbpmcjndlbkkiaaDoor
open Go.RowKit

theorem and_lit64 (x : Nat) (m : Int) (k : Nat) (hm : m = (k : Int)) (hx : x < 18446744073709551616) (hk : k < 18446744073709551616) : bits .and .u64 (x : Int) m = ((x &&& k : Nat) : Int) := by
  subst hm; exact Bits.and_u64 x k hx hk
theorem half_le (a b : Nat) : a &&& b ≤ b := Nat.and_le_right
theorem wrap64_127 (y : Nat) (hy : y < 9223372036854775808) : bits .and .i64 (wrap64 (y : Int)) 127 = ((y % 128 : Nat) : Int) := by
  have h1 : wrap64 (y : Int) = y := by unfold wrap64; omega
  rw [h1]
  have := bits_mask .i64 63 (by decide) (fun n h0 h1 => by rw [IntKind.wrap_i64]; omega) 7 (by decide) (y : Int) (by omega) (by omega)
  rw [show ((2 : Int) ^ 7 - 1) = 127 from by decide] at this
  rw [this]; omega
theorem wrap_u64_nat (m : Nat) : IntKind.u64.wrap (m : Int) = ((m % 18446744073709551616 : Nat) : Int) := by
  simp [IntKind.wrap, IntKind.bits, IntKind.signed]

theorem ones_count (x : Nat) (w : World) (hx : x < 18446744073709551616) : Calls Tryd.prog 41 #[.int .u64 x] w fun e w' => e = .returned (.int .i64 (Bits.count x)) ∧ w = w' := by
  have hfin := Bits.s6_sum x hx
  rw [← Bits.count_sums x] at hfin
  have b1 : Bits.s1 x ≤ 6148914691236517205 + 6148914691236517205 := Nat.add_le_add (half_le _ _) (half_le _ _)
  have e1 : IntKind.u64.wrap (bits .and .u64 ((x : Int) / 2) 6148914691236517205 + bits .and .u64 (x : Int) 6148914691236517205) = (Bits.s1 x : Nat) := by
    rw [show (x : Int) / 2 = ((x / 2 : Nat) : Int) from by omega, and_lit64 (x / 2) 6148914691236517205 6148914691236517205 (by omega) (by omega) (by decide), and_lit64 x 6148914691236517205 6148914691236517205 (by omega) hx (by decide)]
    have : Bits.s1 x = (x / 2 &&& 6148914691236517205) + (x &&& 6148914691236517205) := rfl
    rw [Bits.wrap_u64 _ (by omega) (by omega)]; omega
  generalize Bits.s1 x = y1 at *
  have b2 : Bits.s2 y1 ≤ 3689348814741910323 + 3689348814741910323 := Nat.add_le_add (half_le _ _) (half_le _ _)
  have e2 : IntKind.u64.wrap (bits .and .u64 ((y1 : Int) / 4) 3689348814741910323 + bits .and .u64 (y1 : Int) 3689348814741910323) = (Bits.s2 y1 : Nat) := by
    rw [show (y1 : Int) / 4 = ((y1 / 4 : Nat) : Int) from by omega, and_lit64 (y1 / 4) 3689348814741910323 3689348814741910323 (by omega) (by omega) (by decide), and_lit64 y1 3689348814741910323 3689348814741910323 (by omega) (by omega) (by decide)]
    have : Bits.s2 y1 = (y1 / 4 &&& 3689348814741910323) + (y1 &&& 3689348814741910323) := rfl
    rw [Bits.wrap_u64 _ (by omega) (by omega)]; omega
  generalize Bits.s2 y1 = y2 at *
  have b3 : Bits.s3 y2 ≤ 1085102592571150095 := half_le _ _
  have e3 : bits .and .u64 (IntKind.u64.wrap ((y2 : Int) / 16 + (y2 : Int))) 1085102592571150095 = (Bits.s3 y2 : Nat) := by
    rw [show (y2 : Int) / 16 + (y2 : Int) = ((y2 / 16 + y2 : Nat) : Int) from by omega, Bits.wrap_u64 _ (by omega) (by omega), and_lit64 (y2 / 16 + y2) 1085102592571150095 1085102592571150095 (by omega) (by omega) (by decide)]
    rfl
  generalize Bits.s3 y2 = y3 at *
  have b4 : Bits.s4 y3 = y3 + y3 / 256 := rfl
  have e4 : IntKind.u64.wrap ((y3 : Int) + (y3 : Int) / 256) = (Bits.s4 y3 : Nat) := by rw [Bits.wrap_u64 _ (by omega) (by omega)]; omega
  generalize Bits.s4 y3 = y4 at *
  have b5 : Bits.s5 y4 = y4 + y4 / 65536 := rfl
  have e5 : IntKind.u64.wrap ((y4 : Int) + (y4 : Int) / 65536) = (Bits.s5 y4 : Nat) := by rw [Bits.wrap_u64 _ (by omega) (by omega)]; omega
  generalize Bits.s5 y4 = y5 at *
  have b6 : Bits.s6 y5 = y5 + y5 / 4294967296 := rfl
  have e6 : IntKind.u64.wrap ((y5 : Int) + (y5 : Int) / 4294967296) = (Bits.s6 y5 : Nat) := by rw [Bits.wrap_u64 _ (by omega) (by omega)]; omega
  generalize Bits.s6 y5 = y6 at *
  have e7 := wrap64_127 y6 (by omega)
  rw [hfin] at e7
  clear b1 b2 b3 b4 b5 b6 hx hfin
  go_enter Tryd.func41, Tryd.ntmps41
  go_wp2
  go_ret
  exact ⟨rfl, rfl⟩

def tabArr : Array Value := (Bits.table.map fun z => Value.int .u8 z).toArray
/-- The library's table holds what its text lays. -/
def Tab (w : World) : Prop := ∃ T fr, w.heap[(0 : Nat)]? = some (.cells tabArr T fr)
theorem Tab.ch {S : Nat → Prop} {w w' : World} (h : Tab w) (hc : Ch S w w') (hn : ¬ S 0) : Tab w' := by
  obtain ⟨T, fr, h⟩ := h
  exact ⟨T, fr, (hc.block _ (Array.getElem?_eq_some_iff.1 h).1 hn).trans h⟩
theorem Tab.keep {w w' : World} (h : Tab w) (hc : Ch nob w w') : Tab w' := h.ch hc (fun h => h)
theorem Tab.drewN {w : World} (h : Tab w) (n : Nat) : Tab (w.drewN n) := h
theorem Tab.lt {w : World} (h : Tab w) : 0 < w.heap.size := by
  obtain ⟨T, fr, h⟩ := h
  exact (Array.getElem?_eq_some_iff.1 h).1
theorem Tab.cell {w : World} (h : Tab w) (i : Nat) (hi : i < 64) : w.cell? ⟨0, i, none⟩ = some (.int .u8 (Bits.table.getD i 0)) := by
  obtain ⟨T, fr, h⟩ := h
  rw [cell_of_row w _ i tabArr T fr h]
  have : tabArr.size = 64 := rfl
  unfold tabArr
  rw [List.getElem?_toArray, List.getElem?_map, List.getD_eq_getElem?_getD]
  have hl : i < Bits.table.length := hi
  rw [List.getElem?_eq_getElem hl]; rfl

theorem trailing_zeros (x : Nat) (w : World) (hx : x < 18446744073709551616) (hT : Tab w) : Calls Tryd.prog 44 #[.int .u64 x] w fun e w' => e = .returned (.int .i64 (Bits.least x)) ∧ w = w' := by
  by_cases h0 : x = 0
  · subst h0
    have hl := Lib.hid Bits.least_zero
    go_enter Tryd.func44, Tryd.ntmps44
    go_wp2
    go_ret
    exact ⟨ret_int (by rw [hl.out]; rfl), rfl⟩
  · obtain ⟨hk, _, _⟩ := Bits.least_spec x hx h0
    have hlow := Bits.least_low x hx h0
    generalize Bits.least x = k at hk hlow ⊢
    have ht := Bits.table_at k hk
    have hb : ((x : Int) == 0) = false := by simp [h0]
    have hp : 2 ^ k < 18446744073709551616 := Nat.pow_lt_pow_right (m := k) (n := 64) (by decide) hk
    have e1 : bits .and .u64 (x : Int) (IntKind.u64.wrap (-(x : Int))) = ((2 ^ k : Nat) : Int) := by
      have : IntKind.u64.wrap (-(x : Int)) = ((18446744073709551616 - x : Nat) : Int) := by
        simp [IntKind.wrap, IntKind.bits, IntKind.signed]; omega
      rw [this, Bits.and_u64 x _ hx (by omega), hlow]
    obtain ⟨p, hpe⟩ : ∃ p : Nat, 2 ^ k = p := ⟨_, rfl⟩
    rw [hpe] at e1 ht hp
    obtain ⟨i, hi⟩ : ∃ i : Nat, p * 285870213051353865 % 18446744073709551616 / 288230376151711744 = i := ⟨_, rfl⟩
    have hi64 : i < 64 := by omega
    rw [hi] at ht
    have e2 : IntKind.u64.wrap ((p : Int) * 285870213051353865) / 288230376151711744 = (i : Int) := by
      rw [show (p : Int) * 285870213051353865 = ((p * 285870213051353865 : Nat) : Int) from by omega, wrap_u64_nat]
      omega
    have hc := hT.cell i hi64
    rw [ht] at hc
    clear hlow ht hpe hi hp hT h0
    go_enter Tryd.func44, Tryd.ntmps44
    go_wp2
    go_ret
    exact ⟨rfl, rfl⟩
end Go.Proofs.YtbpmcjndlbkkiaaDoor
