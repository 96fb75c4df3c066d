/- The functions of package table come to plain answers. No condition but each theorem's own. -/
import Derived.Test.YtbpmcjndlbkkiaaLevel2
import Derived.Test.YtbpmcjndlbkkiaaZero
set_option linter.unusedVariables false
set_option linter.unusedSimpArgs false
namespace Go.Proofs.Ytbpmcjndlbkkiaa
open Go.RowKit
attribute [local go_sem ↓] zero_all zero_row

theorem implies_any (a b : Int) (w : World) : Calls Try.prog 19 #[.int .i64 a, .int .i64 b] w fun e w' => e = .returned (.bool (impl a b)) ∧ Ch nob w w' := by
  cases ha : isL a
  · have himp : impl a b = false := by unfold impl; rw [ha]; rfl
    go_enter Try.func19, Try.ntmps19
    go_wp2_with fail
    refine (is_level _ _).mono ?_
    rintro e w1 ⟨rfl, rfl⟩
    go_wp2_with fail
    go_ret
    exact ⟨ret_bool (by first | rfl | exact himp.symm), Ch.refl _ _⟩
  · cases hb : isL b
    · have himp : impl a b = false := by unfold impl; rw [ha, hb]; rfl
      go_enter Try.func19, Try.ntmps19
      go_wp2_with fail
      refine (is_level _ _).mono ?_
      rintro e w1 ⟨rfl, rfl⟩
      go_wp2_with fail
      refine (is_level _ _).mono ?_
      rintro e w1 ⟨rfl, rfl⟩
      go_wp2_with fail
      go_ret
      exact ⟨ret_bool (by first | rfl | exact himp.symm), Ch.refl _ _⟩
    · have himp : impl a b = (missN a b == 0) := by unfold impl; rw [ha, hb]; rfl
      have HI := Lib.hid himp
      clear himp
      go_enter Try.func19, Try.ntmps19
      go_wp2_with fail
      refine (is_level _ _).mono ?_
      rintro e w1 ⟨rfl, rfl⟩
      go_wp2_with fail
      refine (is_level _ _).mono ?_
      rintro e w1 ⟨rfl, rfl⟩
      go_wp2_with fail
      refine (missing_any _ _ _).mono ?_
      rintro e w1 ⟨rfl, hc⟩
      go_wp2_with fail
      go_ret
      exact ⟨ret_bool (by rw [HI.out]; rw [Bool.eq_iff_iff]; simp), hc⟩

def allF (k : Nat) : Bool := impl ((k / 12 : Nat) : Int) ((k % 12 : Nat) : Int)
def allArr : Array Value := arrOf 144 fun k => .bool (allF k)

theorem allF_at (a b : Nat) (hb : b < 12) : allF (a * 12 + b) = impl a b := by
  unfold allF
  rw [show (a * 12 + b) / 12 = a from by omega, show (a * 12 + b) % 12 = b from by omega]
theorem all_step (a b : Nat) (hb : b < 12) (k : Nat) : (if k = a * 12 + b then Value.bool (impl a b) else .bool (decide (k < a * 12 + b) && allF k)) = .bool (decide (k < a * 12 + (b + 1)) && allF k) := by
  by_cases h : k = a * 12 + b
  · rw [if_pos h, h, allF_at a b hb, decide_eq_true (by omega)]; rfl
  · rw [if_neg h]
    congr 2
    exact decide_eq_decide.2 (by omega)
theorem all_whole (k : Nat) (hk : k < 144) : Value.bool (decide (k < 12 * 12) && allF k) = .bool (allF k) := by
  rw [decide_eq_true (by omega)]; rfl
theorem all_cells : allArr.all (·.oneCell') = true := arrOf_cells _ _ fun _ _ => rfl

theorem all_table (w : World) : Calls Try.prog 22 #[] w fun e w' => e = .returned (.agg allArr) ∧ Ch nob w w' := by
  go_enter Try.func22, Try.ntmps22
  go_wp2_with fail
  have hb0 : Blk ((w.alloc (.cells (arrOf 144 fun x => .bool false) 46)).alloc (.cells (arrOf 144 fun x => .bool false) 46)) (w.heap.size + 1) (arrOf 144 fun x => .bool false) 46 := by
    simpa using Blk.new (w.alloc (.cells (arrOf 144 fun x => .bool false) 46)) (arrOf 144 fun x => .bool false) 46
  have hb1 : Blk ((w.alloc (.cells (arrOf 144 fun x => .bool false) 46)).alloc (.cells (arrOf 144 fun x => .bool false) 46)) w.heap.size (arrOf 144 fun x => .bool false) 46 :=
    (Blk.new w (arrOf 144 fun x => .bool false) 46).alloc _
  have hc0 := ((Ch.refl nob w).alloc (.cells (arrOf 144 fun x => .bool false) 46)).alloc (.cells (arrOf 144 fun x => .bool false) 46)
  generalize ((w.alloc (.cells (arrOf 144 fun x => .bool false) 46)).alloc (.cells (arrOf 144 fun x => .bool false) 46)) = w2 at hb0 hb1 hc0 ⊢
  go_loopw [4] (fun c wr => ∃ a : Nat, c = .int .i64 a ∧ a ≤ 12 ∧ Blk wr (w.heap.size + 1) (arrOf 144 fun k => .bool (decide (k < a * 12) && allF k)) 46 ∧ Blk wr w.heap.size (arrOf 144 fun x => .bool false) 46 ∧ Ch nob w wr) (fun c _ => 12 - (intOf c).toNat)
  case atStart => exact ⟨0, rfl, by omega, by simpa using hb0, hb1, hc0⟩
  case round =>
    clear hb0 hb1 hc0
    obtain ⟨a, rfl, ha, hb0, hb1, hc0⟩ := hrel
    by_cases hlt : a < 12
    · have hd : decide ((a : Int) < 12) = true := decide_eq_true (by omega)
      go_wp2_with fail
      obtain ⟨wo, rfl⟩ : ∃ wo : World, wo = wr := ⟨_, rfl⟩
      go_loopw [7] (fun c wr => ∃ b : Nat, c = .int .i64 b ∧ b ≤ 12 ∧ Blk wr (w.heap.size + 1) (arrOf 144 fun k => .bool (decide (k < a * 12 + b) && allF k)) 46 ∧ Blk wr w.heap.size (arrOf 144 fun x => .bool false) 46 ∧ Ch nob w wr) (fun c _ => 12 - (intOf c).toNat)
      case atStart => exact ⟨0, rfl, by omega, by simpa using hb0, hb1, hc0⟩
      case round =>
        clear hb0 hb1 hc0
        obtain ⟨b, rfl, hb, hb0, hb1, hc0⟩ := hrel
        by_cases hlt2 : b < 12
        · go_wp2_with fail
          go_region_with (go_at_call 19; refine (implies_any _ _ _).mono ?_; rintro e w1 ⟨rfl, hc1⟩; have hb2 := (Blk.drew hb0).ch hc1 (fun h => h); have hb3 := (Blk.drew hb1).ch hc1 (fun h => h); have hc2 := hc0.drew.seq hc1; have hx := hb2.cellOf (a * 12 + b) (by omega); have hf := hb2.free (a * 12 + b); clear hb0 hb1 hc0 hc1)
          all_goals
            have hb4 := (hb2.setOf (a * 12 + b) (.bool (impl a b))).congr (fun k _ => all_step a b hlt2 k)
            have hb5 : Blk (w1.setCell ⟨w.heap.size + 1, a * 12 + b, none⟩ (.bool (impl a b))) w.heap.size (arrOf 144 fun x => .bool false) 46 := hb3.ch ((Ch.refl (· = w.heap.size + 1) w1).setCell _ _ (fun _ => rfl)) (by omega)
            have hc3 := hc2.setCell ⟨w.heap.size + 1, a * 12 + b, none⟩ (.bool (impl a b)) (fun h => by simp at h; omega)
            clear hb2 hb3 hc2 hx hf
            go_wp2_with fail
            go_roundw
            case rel => exact ⟨b + 1, by go_num, by omega, hb4, hb5, hc3⟩
            case measure => simp [intOf]; omega
        · obtain rfl : b = 12 := by omega
          rw [show a * 12 + 12 = (a + 1) * 12 from by omega] at hb0
          go_wp2_with fail
          go_roundw
          case rel => exact ⟨a + 1, by go_num, by omega, hb0, hb1, hc0⟩
          case measure => simp [intOf]; omega
    · obtain rfl : a = 12 := by omega
      have hb2 := hb0.congr all_whole
      clear hb0
      go_wp2_with (first | (refine wpList_load_row rfl 46 (.tmp 1) rfl (w.heap.size + 1) rfl 46 allArr (0, 0) _ hb2 rfl rfl (by kernel_rfl) ?_) | (refine wpList_store_row rfl 46 (.tmp 0) (.tmp 19) rfl w.heap.size allArr rfl rfl 46 _ hb1 (by kernel_rfl) (by rw [arrOf_size]; rfl) all_cells ?_))
      have hb3 := hb1.row allArr
      have hc1 := hc0.setRow w.heap.size allArr (fun h => by omega)
      exact bodyPost_ret (v := .agg allArr) (results_cell_row rfl _ _ w.heap.size 46 allArr (0, 0) _ rfl hb3 rfl rfl (by kernel_rfl)) rfl ⟨rfl, hc1⟩
end Go.Proofs.Ytbpmcjndlbkkiaa
