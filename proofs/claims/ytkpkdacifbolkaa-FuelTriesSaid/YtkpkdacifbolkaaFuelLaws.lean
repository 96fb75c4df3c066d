/- The three laws of package burgagelaw16 answer true, whatever their arguments. No condition. -/
import Derived.Test.YtkpkdacifbolkaaFuel
namespace Go.Proofs.Ytkpkdacifbolkaa
open Go.RowKit

theorem level_lit (n v : Int) (h : Fuel.of n = v) (w : World) (h1 : n ≤ 100) :
   Calls Try.prog 13 #[.int .i64 n] w fun e w' => e = .returned (.int .i64 v) ∧ w = w' := by subst h; exact level_fuel n w (by omega)
theorem all_lit (n v : Int) (h : Fuel.times (Fuel.of n) 12 = v) (w : World) (h1 : n ≤ 100) :
   Calls Try.prog 14 #[.int .i64 n] w fun e w' => e = .returned (.int .i64 v) ∧ w = w' := by subst h; exact all_fuel n w (by omega)

theorem speaks16 (w : World) : Calls Try.prog 11 #[] w fun e w' => e = .returned (.bool true) ∧ Ch nob w w' := by
  have l3 := fun w => level_lit 3 18 (by decide +kernel) w (by decide)
  have l64 := fun w => level_lit 64 4611686018427387904 (Fuel.lvl_big 63 (by omega)) w (by decide)
  have a3 := fun w => all_lit 3 216 (by decide +kernel) w (by decide)
  have hw1 : wrap64 (0 + 1) = 1 := by unfold wrap64; omega
  have L3 := Lib.hid l3
  have L64 := Lib.hid l64
  have A3 := Lib.hid a3
  have HW := Lib.hid hw1
  clear l3 l64 a3 hw1
  go_enter Try.func11, Try.ntmps11
  go_wp2_with fail
  refine (new_meter 1 _).mono ?_
  rintro e w1 ⟨rfl, hm, hc⟩
  go_wp2_with fail
  refine (L3.out _).mono ?_
  rintro e w2 ⟨rfl, rfl⟩
  go_wp2_with fail
  refine (A3.out _).mono ?_
  rintro e w2 ⟨rfl, rfl⟩
  go_wp2_with fail
  refine (spend_one _ _ _ _ hm (by decide) (by decide)).mono ?_
  rintro e w2 ⟨rfl, hm2, hc2⟩
  rw [HW.out, show max (1 : Int) 0 - 1 = 0 from by decide] at hm2
  go_wp2_with fail
  refine (spend_none _ _ _ hm2).mono ?_
  rintro e w3 ⟨rfl, rfl⟩
  go_wp2_with fail
  refine (used_meter _ _ _ _ _ hm2).mono ?_
  rintro e w3 ⟨rfl, rfl⟩
  go_wp2_with fail
  refine (left_meter _ _ _ _ _ hm2).mono ?_
  rintro e w3 ⟨rfl, rfl⟩
  go_wp2_with fail
  refine (L64.out _).mono ?_
  rintro e w3 ⟨rfl, rfl⟩
  go_wp2_with fail
  go_ret
  exact ⟨rfl, hc.trans hc2 (fun i hi e => by have := e; omega)⟩

theorem law_bounds (n : Int) (_hn : -9223372036854775808 ≤ n ∧ n ≤ 9223372036854775807) (w : World) :
    Calls Try.prog 3 #[.int .i64 n] w fun e w' => e = .returned (.bool true) ∧ Below w.heap.size w w' := by
  go_enter Try.func3, Try.ntmps3
  go_wp2_with fail
  refine (speaks16 _).mono ?_
  rintro e w1 ⟨rfl, hc⟩
  by_cases h : 2000 < n
  · go_wp2_with fail
    go_ret
    exact ⟨rfl, hc.below⟩
  · have hb := Fuel.of_bd n
    go_wp2_with fail
    refine (level_ref _ _).mono ?_
    rintro e w2 ⟨rfl, rfl⟩
    go_wp2_with fail
    refine (level_fuel _ _ (by omega)).mono ?_
    rintro e w2 ⟨rfl, rfl⟩
    go_wp2_with fail
    refine (all_fuel _ _ (by omega)).mono ?_
    rintro e w2 ⟨rfl, rfl⟩
    go_wp2_with fail
    refine (product_ref _ _ _ (by omega) (by omega) (by omega) (by omega)).mono ?_
    rintro e w2 ⟨rfl, rfl⟩
    by_cases h0 : n < 0
    · go_wp2_with fail
      go_ret
      exact ⟨rfl, hc.below⟩
    · have hmo := Fuel.of_mono n (by omega)
      go_wp2_with fail
      refine (level_fuel _ _ (by omega)).mono ?_
      rintro e w2 ⟨rfl, rfl⟩
      go_wp2_with fail
      refine (level_fuel _ _ (by omega)).mono ?_
      rintro e w2 ⟨rfl, rfl⟩
      go_wp2_with fail
      go_ret
      exact ⟨ret_bool (by simp), hc.below⟩

theorem tries_any (k : Nat) : ∀ (n : Int) (w : World), n = k → k < 9 →
    Calls Try.prog 20 #[.int .i64 n] w fun e w' => e = .returned (.int .i64 (Fuel.tries k)) ∧ w = w' := by
  induction k with
  | zero =>
    rintro n w rfl hk
    go_enter Try.func20, Try.ntmps20
    go_wp2_with fail
    go_loop [3, 5] (fun n i => n = .int .i64 0 ∧ i = .int .i64 0) (fun _ i => 0)
    case atStart => exact ⟨rfl, rfl⟩
    case round =>
      obtain ⟨rfl, rfl⟩ := hrel
      go_wp2_with fail
      go_ret
      exact ⟨rfl, rfl⟩
  | succ k ih =>
    intro n w hn hk
    have hn1 : n ≤ (k : Int) + 1 := by omega
    have hn2 : (k : Int) + 1 ≤ n := by omega
    clear hn
    have hb := Fuel.tries_bd k (by omega)
    go_enter Try.func20, Try.ntmps20
    obtain ⟨t, ht⟩ : ∃ t : Nat, Fuel.tries k = t := ⟨_, rfl⟩
    have hts : Fuel.tries (k + 1) = (k + 1) * (1 + t) := by show (k + 1) * (1 + Fuel.tries k) = _; rw [ht]
    rw [ht] at ih hb
    rw [hts]
    clear ht hts
    go_wp2_with fail
    go_loop [3, 5] (fun n i => ∃ j x : Nat, n = .int .i64 x ∧ i = .int .i64 j ∧ j ≤ k + 1 ∧ Hid (x = j * (1 + t)) ∧ x ≤ j * 200001) (fun _ i => (k + 2 - (intOf i).toNat))
    case atStart => exact ⟨0, 0, rfl, rfl, by omega, by show 0 = 0 * (1 + t); simp, by omega⟩
    case round =>
      obtain ⟨j, x, rfl, rfl, hj, hx, hxb⟩ := hrel
      have hxs := hx.out
      have hsu : (j + 1) * (1 + t) = j * (1 + t) + (1 + t) := by rw [Nat.succ_mul]
      have HSU := Lib.hid hsu
      clear hxs hsu
      by_cases hlt : j < k + 1
      · go_wp2_with fail
        refine (ih _ _ (by omega) (by omega)).mono ?_
        rintro e w1 ⟨rfl, rfl⟩
        go_wp2_with fail
        go_round
        case rel => exact ⟨j + 1, x + (1 + t), by go_num, by go_num, by omega, by show x + (1 + t) = (j + 1) * (1 + t); rw [HSU.out, hx.out], by omega⟩
        case measure => simp [intOf]; omega
      · go_wp2_with fail
        go_ret
        refine ⟨ret_int ?_, rfl⟩
        rw [hx.out, show j = k + 1 from by omega]
        simp

theorem law_tries (n : Int) (hn : 0 ≤ n ∧ n ≤ 255) (w : World) :
    Calls Try.prog 5 #[.int .u8 n] w fun e w' => e = .returned (.bool true) ∧ Below w.heap.size w w' := by
  obtain ⟨h0, h1⟩ := hn
  obtain ⟨m, rfl⟩ := Int.eq_ofNat_of_zero_le h0
  have hle := Fuel.tries_le (m % 9) (by omega)
  go_enter Try.func5, Try.ntmps5
  go_wp2_with fail
  refine (speaks16 _).mono ?_
  rintro e w1 ⟨rfl, hc⟩
  go_wp2_with fail
  refine (tries_any (m % 9) _ _ (by omega) (by omega)).mono ?_
  rintro e w2 ⟨rfl, rfl⟩
  go_wp2_with fail
  refine (level_fuel _ _ (by omega)).mono ?_
  rintro e w2 ⟨rfl, rfl⟩
  go_wp2_with fail
  go_ret
  exact ⟨ret_bool (by simpa using hle), hc.below⟩

section
attribute [local go_sem high] max_imax min_imin
theorem law_meters (much : Int) (hmu : -9223372036854775808 ≤ much ∧ much ≤ 9223372036854775807) (often : Int) (hof : 0 ≤ often ∧ often ≤ 255) (w : World) :
    Calls Try.prog 4 #[.int .i64 much, .int .u8 often] w fun e w' => e = .returned (.bool true) ∧ Below w.heap.size w w' := by
  obtain ⟨ho, ho2⟩ := hof
  obtain ⟨hm1, hm2⟩ := hmu
  obtain ⟨l0, hl0⟩ : ∃ l0 : Int, imax much 0 = l0 := ⟨_, rfl⟩
  have hb : 0 ≤ l0 ∧ l0 ≤ 9223372036854775807 ∧ much ≤ l0 := by rw [← hl0]; unfold imax; omega
  by_cases c1 : much < 4611686018427387904
  · have hb2 : l0 < 4611686018427387904 := by rw [← hl0]; unfold imax; omega
    have hfin : imin l0 often = min often l0 := by unfold imin; omega
    go_enter Try.func4, Try.ntmps4
    go_wp2_with fail
    refine (speaks16 _).mono ?_
    rintro e w1 ⟨rfl, hc⟩
    go_wp2_with fail
    refine (new_meter much _).mono ?_
    rintro e w2 ⟨rfl, hm, hc2⟩
    have hc' := hc.seq hc2
    have hg : w.heap.size ≤ w1.heap.size := hc.size
    have hmx : max much 0 = l0 := hl0
    rw [hmx, decide_eq_false (by omega)] at hm
    clear hc hc2 hmx
    go_wp2_with fail
    go_loopw [15] (fun c wr => ∃ k : Nat, c = .int .i64 k ∧ (k : Int) ≤ often ∧ IsM wr w1.heap.size (l0 - min (k : Int) l0) (min (k : Int) l0) false ∧ Ch nob w wr) (fun c _ => (often - intOf c).toNat)
    case atStart => exact ⟨0, rfl, by omega, by rw [show min ((0 : Nat) : Int) l0 = 0 from by omega, Int.sub_zero]; exact hm, hc'⟩
    case round =>
      clear hm hc'
      obtain ⟨k, rfl, hk, hm, hc⟩ := hrel
      by_cases hlt : (k : Int) < often
      · by_cases hkl : (k : Int) < l0
        · have hx : imax (l0 - k) 0 = l0 - k := by unfold imax; omega
          rw [show min (k : Int) l0 = k from by omega] at hm
          go_wp2_with fail
          refine (left_meter _ _ _ _ _ hm).mono ?_
          rintro e w3 ⟨rfl, rfl⟩
          go_wp2_with fail
          refine (used_meter _ _ _ _ _ hm).mono ?_
          rintro e w3 ⟨rfl, rfl⟩
          go_wp2_with fail
          refine (spend_one _ _ _ _ hm (by omega) (by omega)).mono ?_
          rintro e w3 ⟨rfl, hm3, hc3⟩
          have hc4 := hc.fresh hc3 hg
          have hm4 : IsM w3 w1.heap.size (l0 - min ((k + 1 : Nat) : Int) l0) (min ((k + 1 : Nat) : Int) l0) false := by
            rw [show min ((k + 1 : Nat) : Int) l0 = k + 1 from by omega]
            rw [show wrap64 ((k : Int) + 1) = k + 1 from by unfold wrap64; omega, show l0 - (k : Int) - 1 = l0 - (k + 1) from by omega] at hm3
            exact hm3
          go_wp2_with fail
          go_roundw
          case rel => exact ⟨k + 1, by go_num, by omega, hm4, hc4⟩
          case measure => simp [intOf]; omega
        · have hx : imax (l0 - k) 0 = 0 := by unfold imax; omega
          rw [show min (k : Int) l0 = l0 from by omega, Int.sub_self] at hm
          have hm4 : IsM wr w1.heap.size (l0 - min ((k + 1 : Nat) : Int) l0) (min ((k + 1 : Nat) : Int) l0) false := by
            rw [show min ((k + 1 : Nat) : Int) l0 = l0 from by omega, Int.sub_self]
            exact hm
          go_wp2_with fail
          refine (left_meter _ _ _ _ _ hm).mono ?_
          rintro e w3 ⟨rfl, rfl⟩
          go_wp2_with fail
          refine (used_meter _ _ _ _ _ hm).mono ?_
          rintro e w3 ⟨rfl, rfl⟩
          by_cases hkk : l0 = (k : Int)
          · have hb1 : (l0 != (k : Int)) = false := by simp [hkk]
            have HK := Lib.hid hkk
            clear hkk
            go_wp2_with fail
            refine (spend_none _ _ _ hm).mono ?_
            rintro e w3 ⟨rfl, rfl⟩
            go_wp2_with fail
            go_roundw
            case rel => exact ⟨k + 1, by go_num, by omega, hm4, hc⟩
            case measure => simp [intOf]; omega
          · have hb1 : (l0 != (k : Int)) = true := by simp [hkk]
            go_wp2_with fail
            refine (used_meter _ _ _ _ _ hm).mono ?_
            rintro e w3 ⟨rfl, rfl⟩
            go_wp2_with fail
            refine (spend_none _ _ _ hm).mono ?_
            rintro e w3 ⟨rfl, rfl⟩
            go_wp2_with fail
            go_roundw
            case rel => exact ⟨k + 1, by go_num, by omega, hm4, hc⟩
            case measure => simp [intOf]; omega
      · rw [show (k : Int) = often from by omega] at hm
        go_wp2_with fail
        refine (used_meter _ _ _ _ _ hm).mono ?_
        rintro e w3 ⟨rfl, rfl⟩
        go_wp2_with fail
        go_ret
        exact ⟨ret_bool (by simp), hc.below⟩
  · have hl : l0 = much := by rw [← hl0]; unfold imax; omega
    subst hl
    have hfin : imin l0 often = often := by unfold imin; omega
    have hx : imax 4611686018427387904 0 = 4611686018427387904 := by decide
    have hc1 : decide (4611686018427387904 ≤ l0) = true := decide_eq_true (by omega)
    go_enter Try.func4, Try.ntmps4
    go_wp2_with fail
    refine (speaks16 _).mono ?_
    rintro e w1 ⟨rfl, hc⟩
    go_wp2_with fail
    refine (new_meter l0 _).mono ?_
    rintro e w2 ⟨rfl, hm, hc2⟩
    have hc' := hc.seq hc2
    have hg : w.heap.size ≤ w1.heap.size := hc.size
    rw [hc1] at hm
    clear hc hc2
    go_wp2_with fail
    go_loopw [15] (fun c wr => ∃ k : Nat, c = .int .i64 k ∧ (k : Int) ≤ often ∧ IsM wr w1.heap.size (max l0 0) k true ∧ Ch nob w wr) (fun c _ => (often - intOf c).toNat)
    case atStart => exact ⟨0, rfl, by omega, hm, hc'⟩
    case round =>
      clear hm hc'
      obtain ⟨k, rfl, hk, hm, hc⟩ := hrel
      by_cases hlt : (k : Int) < often
      · go_wp2_with fail
        refine (left_meter _ _ _ _ _ hm).mono ?_
        rintro e w3 ⟨rfl, rfl⟩
        go_wp2_with fail
        refine (used_meter _ _ _ _ _ hm).mono ?_
        rintro e w3 ⟨rfl, rfl⟩
        go_wp2_with fail
        refine (spend_endless _ _ _ _ hm).mono ?_
        rintro e w3 ⟨rfl, hm3, hc3⟩
        have hc4 := hc.fresh hc3 hg
        rw [show wrap64 ((k : Int) + 1) = ((k + 1 : Nat) : Int) from by unfold wrap64; omega] at hm3
        go_wp2_with fail
        go_roundw
        case rel => exact ⟨k + 1, by go_num, by omega, hm3, hc4⟩
        case measure => simp [intOf]; omega
      · rw [show (k : Int) = often from by omega] at hm
        go_wp2_with fail
        refine (used_meter _ _ _ _ _ hm).mono ?_
        rintro e w3 ⟨rfl, rfl⟩
        go_wp2_with fail
        go_ret
        exact ⟨ret_bool (by simp), hc.below⟩
end
end Go.Proofs.Ytkpkdacifbolkaa
