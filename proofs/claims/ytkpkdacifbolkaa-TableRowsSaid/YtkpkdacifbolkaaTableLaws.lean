/- Laws of package burgagelaw10 answer true, whatever their arguments. No condition. -/
import Derived.Test.YtkpkdacifbolkaaTable2
set_option linter.unusedVariables false
set_option linter.unusedSimpArgs false
namespace Go.Proofs.Ytkpkdacifbolkaa
open Go.RowKit
attribute [local go_sem ↓] zero_all zero_row

theorem index_row (r : Nat → Bool) (k : Nat) (hk : k < 12) (w : World) : (Instr.index 44 (.agg (rowArr r)) (.int .i64 k)).run Try.prog w = .ok (.bool (r k)) w :=
  run_index_one (e := 4) (len := 12) (by kernel_rfl) w (by kernel_rfl) (by kernel_rfl) _ _ _ _ (by omega) (by omega) (arrOf_get _ _ _ hk)
/-- How many of the first k are so. -/
def cnt (r : Nat → Bool) (k : Nat) : Nat := ((List.range k).filter r).length
theorem cnt_succ (r : Nat → Bool) (k : Nat) : cnt r (k + 1) = cnt r k + if r k then 1 else 0 := by
  unfold cnt
  rw [List.range_succ, List.filter_append, List.length_append]
  cases h : r k <;> simp [h]
theorem cnt_le (r : Nat → Bool) (k : Nat) : cnt r k ≤ k := by
  have := List.length_filter_le r (List.range k)
  unfold cnt
  simpa using this

theorem speaks10 (w : World) : Calls Try.prog 21 #[] w fun e w' => e = .returned (.bool true) ∧ Ch nob w w' := by
  obtain ⟨hb, hc, _⟩ := one_new w #[.int .i64 7] 31
  go_enter Try.func21, Try.ntmps21
  go_wp2_with fail
  generalize w.alloc _ = w1 at hb hc ⊢
  refine (below_table _ [7] _ ⟨some ⟨w.heap.size, 0, none⟩, 1, rfl, by simp, fun _ => ⟨_, rfl, fun j hj => by
    obtain rfl : j = 0 := by simpa using hj
    exact hb.cell rfl⟩⟩).mono ?_
  rintro e w2 ⟨rfl, hc2⟩
  have hc3 := hc.seq hc2
  clear hb hc hc2
  obtain ⟨r, hr⟩ : ∃ r, belowF [7] = r := ⟨_, rfl⟩
  have hcnt : cnt r 12 = 8 := by rw [← hr]; decide +kernel
  have r7 : r 7 = true := by rw [← hr]; decide +kernel
  have r8 : r 8 = false := by rw [← hr]; decide +kernel
  have i1 : impl 11 7 = true := by decide +kernel
  have i2 : impl 7 11 = false := by decide +kernel
  obtain ⟨hb0, hc0, _⟩ := one_new w2 (arrOf 12 fun _ => .bool false) 44
  have hb2 := hb0.row (rowArr r)
  have hc4 := (hc3.seq hc0).setRow w2.heap.size (rowArr r) (fun h => by have := hc3.size; omega)
  rw [hr]
  have HCN := Lib.hid hcnt
  clear hr hcnt hc0 hc3
  go_wp2_with (first | (refine wpList_store_row rfl 44 (.tmp 1) (.tmp 6) rfl w2.heap.size (rowArr r) rfl rfl 44 _ hb0 (by rw [rowArr, arrOf_size]; kernel_rfl) (by rw [arrOf_size, rowArr, arrOf_size]) (arrOf_cells _ _ fun _ _ => rfl) ?_) | (refine wpList_load_row rfl 44 (.tmp 1) rfl w2.heap.size rfl 44 (rowArr r) (0, 0) _ hb2 rfl rfl (by rw [rowArr, arrOf_size]; kernel_rfl) ?_))
  generalize (w2.alloc _).setRow _ _ = w3 at hb2 hc4 ⊢
  clear hb0
  go_loopw [2, 8] (fun n q wr => ∃ k : Nat, q = .int .i64 k ∧ n = .int .i64 (cnt r k) ∧ k ≤ 12 ∧ wr = w3) (fun _ q _ => 12 - (intOf q).toNat)
  case atStart => exact ⟨0, rfl, rfl, by omega, rfl⟩
  case round =>
    obtain ⟨k, rfl, rfl, hk, rfl⟩ := hrel
    have hcl := cnt_le r k
    by_cases hlt : k < 12
    · have hix := index_row r k hlt
      have hcs := cnt_succ r k
      cases hrk : r k
      · rw [hrk] at hix hcs
        have hcs2 : cnt r (k + 1) = cnt r k := by simpa using hcs
        have HCS := Lib.hid hcs2
        clear hcs hcs2 hrk
        go_wp2_with fail
        go_roundw
        case rel => exact ⟨k + 1, by go_num, by rw [HCS.out], by omega, trivial⟩
        case measure => simp [intOf]; omega
      · rw [hrk] at hix hcs
        have hcs2 : cnt r (k + 1) = cnt r k + 1 := by simpa using hcs
        have HCS := Lib.hid hcs2
        clear hcs hcs2 hrk
        go_wp2_with fail
        go_roundw
        case rel => exact ⟨k + 1, by go_num, by rw [HCS.out]; go_num, by omega, trivial⟩
        case measure => simp [intOf]; omega
    · obtain rfl : k = 12 := by omega
      rw [HCN.out]
      have x7 := hb2.cellOf 7 (by decide)
      have x8 := hb2.cellOf 8 (by decide)
      rw [r7] at x7
      rw [r8] at x8
      go_wp2_with (go_at_call 22; refine (implies_any _ _ _).mono ?_; rintro e w4 ⟨rfl, hc1⟩; replace hc4 := hc4.seq hc1; clear hc1)
      go_ret
      exact ⟨rfl, hc4⟩
theorem law_order (a : Int) (ha : 0 ≤ a ∧ a ≤ 255) (b : Int) (hb : 0 ≤ b ∧ b ≤ 255) (c : Int) (hc : 0 ≤ c ∧ c ≤ 255) (w : World) :
    Calls Try.prog 6 #[.int .u8 a, .int .u8 b, .int .u8 c] w fun e w' => e = .returned (.bool true) ∧ Below w.heap.size w w' := by
  obtain ⟨a0, a1⟩ := ha
  obtain ⟨b0, b1⟩ := hb
  obtain ⟨c0, c1⟩ := hc
  go_enter Try.func6, Try.ntmps6
  go_wp2_with fail
  refine (speaks10 _).mono ?_
  rintro e w1 ⟨rfl, hc⟩
  go_wp2_with fail
  obtain ⟨x, hx, hx0, hx1⟩ : ∃ x, a % 12 = x ∧ 0 ≤ x ∧ x < 12 := ⟨_, rfl, by omega, by omega⟩
  obtain ⟨y, hy, hy0, hy1⟩ : ∃ y, b % 12 = y ∧ 0 ≤ y ∧ y < 12 := ⟨_, rfl, by omega, by omega⟩
  obtain ⟨z, hz, hz0, hz1⟩ : ∃ z, c % 12 = z ∧ 0 ≤ z ∧ z < 12 := ⟨_, rfl, by omega, by omega⟩
  rw [hx, hy, hz]
  have hxx := impl_refl x hx0 hx1
  have htr := impl_trans x y z hx0 hx1 hy0 hy1 hz0 hz1
  have han := impl_anti x y hx0 hx1 hy0 hy1
  clear hx hy hz a0 a1 b0 b1 c0 c1
  by_cases hxy : x = y
  · subst hxy
    cases hyz : impl x z
    all_goals
      clear htr han
      go_wp2_with (go_at_call 22; refine (implies_any _ _ _).mono ?_; rintro e w2 ⟨rfl, hc1⟩; replace hc := hc.seq hc1; clear hc1)
      go_ret
      exact ⟨ret_bool (by simp), hc.below⟩
  · have hne : (x == y) = false := beq_eq_false_iff_ne.2 hxy
    cases h1 : impl x y
    · clear htr han
      go_wp2_with (go_at_call 22; refine (implies_any _ _ _).mono ?_; rintro e w2 ⟨rfl, hc1⟩; replace hc := hc.seq hc1; clear hc1)
      go_ret
      exact ⟨ret_bool (by simp), hc.below⟩
    · cases h2 : impl y z
      · cases h3 : impl y x
        · clear htr han
          go_wp2_with (go_at_call 22; refine (implies_any _ _ _).mono ?_; rintro e w2 ⟨rfl, hc1⟩; replace hc := hc.seq hc1; clear hc1)
          go_ret
          exact ⟨ret_bool (by simp), hc.below⟩
        · exact absurd (han h1 h3) hxy
      · cases h3 : impl y x
        · have h4 := htr h1 h2
          clear htr han
          go_wp2_with (go_at_call 22; refine (implies_any _ _ _).mono ?_; rintro e w2 ⟨rfl, hc1⟩; replace hc := hc.seq hc1; clear hc1)
          go_ret
          exact ⟨ret_bool (by simp), hc.below⟩
        · exact absurd (han h1 h3) hxy
end Go.Proofs.Ytkpkdacifbolkaa
