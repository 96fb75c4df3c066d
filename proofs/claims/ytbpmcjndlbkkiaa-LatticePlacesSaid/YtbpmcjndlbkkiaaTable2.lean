/- More functions of package table come to plain answers. No condition but each theorem's own. -/
import Derived.Test.YtbpmcjndlbkkiaaTable
import Derived.Test.YtbpmcjndlbkkiaaSl
set_option linter.unusedVariables false
set_option linter.unusedSimpArgs false
namespace Go.Proofs.Ytbpmcjndlbkkiaa
open Go.RowKit
attribute [local go_sem ↓] zero_all zero_row

/-- A row of twelve bools. -/
def rowArr (r : Nat → Bool) : Array Value := arrOf 12 fun k => .bool (r k)
theorem rowArr_ext {r s : Nat → Bool} (h : ∀ k, k < 12 → r k = s k) : rowArr r = rowArr s := arrOf_ext fun k hk => by rw [h k hk]
/-- 'table.Below'. -/
def belowF (l : List Int) (b : Nat) : Bool := l.any fun a => impl a b
def belowAt (l : List Int) (i b k : Nat) : Bool := (l.take i).any (fun a => impl a k) || (decide (k < b) && impl (l.getD i 0) k)
theorem belowAt_zero (l : List Int) (i k : Nat) : belowAt l i 0 k = (l.take i).any (fun a => impl a k) := by simp [belowAt]
theorem belowAt_next (l : List Int) (i k : Nat) (hi : i < l.length) (hk : k < 12) : belowAt l i 12 k = belowAt l (i + 1) 0 k := by
  rw [belowAt_zero, List.take_add_one, List.any_append]
  simp [belowAt, hk, List.getD_eq_getElem?_getD, List.getElem?_eq_getElem hi]
theorem belowAt_step (l : List Int) (i b k : Nat) : (if k = b then Value.bool (belowAt l i b b || impl (l.getD i 0) b) else .bool (belowAt l i b k)) = .bool (belowAt l i (b + 1) k) := by
  by_cases h : k = b
  · rw [if_pos h, h]; simp [belowAt]
  · rw [if_neg h]
    unfold belowAt
    rw [show decide (k < b + 1) = decide (k < b) from decide_eq_decide.2 (by omega)]
theorem belowAt_all (l : List Int) (k : Nat) : belowAt l l.length 0 k = belowF l k := by rw [belowAt_zero, List.take_length]; rfl

theorem below_table (v : Value) (l : List Int) (w : World) (hl : Ints w v l) : Calls Try.prog 14 #[v] w fun e w' => e = .returned (.agg (rowArr (belowF l))) ∧ Ch nob w w' := by
  obtain ⟨A, c, rfl, hlen, hcells⟩ := id hl
  go_enter Try.func14, Try.ntmps14
  go_wp2_with fail
  obtain ⟨hb1, hb0, hc0, _⟩ := two_new w (arrOf 12 fun _ => .bool false) (arrOf 12 fun _ => .bool false) 25 25
  generalize (w.alloc _).alloc _ = w2 at hb1 hb0 hc0 ⊢
  go_loopw [9] (fun q wr => ∃ i : Nat, q = .int .i64 i ∧ i ≤ l.length ∧ Blk wr (w.heap.size + 1) (arrOf 12 fun k => .bool (belowAt l i 0 k)) 25 ∧ Blk wr w.heap.size (arrOf 12 fun x => .bool false) 25 ∧ Ch nob w wr) (fun q _ => l.length - (intOf q).toNat)
  case atStart => exact ⟨0, rfl, by omega, hb0.congr (fun k _ => by simp [belowAt]), hb1, hc0⟩
  case round =>
    clear hb0 hb1 hc0
    obtain ⟨i, rfl, hi, hb0, hb1, hc0⟩ := hrel
    by_cases hlt : i < l.length
    · have hd : decide ((i : Int) < (l.length : Int)) = true := decide_eq_true (by omega)
      obtain ⟨ad, rfl, hce⟩ := hcells (by omega)
      have hx := (World.cell?_of_block (hc0.block _ (World.block_lt_of_cell? w _ (hce i hlt)) (fun h => h))).trans (hce i hlt)
      obtain ⟨z, hz⟩ : ∃ z : Int, l.getD i 0 = z := ⟨_, rfl⟩
      rw [hz] at hx
      have HZ := Lib.hid hz
      have HCE := Lib.hid hce
      clear hz hce hcells
      go_wp2_with fail
      clear hx
      obtain ⟨wo, rfl⟩ : ∃ wo : World, wo = wr := ⟨_, rfl⟩
      go_loopw [13] (fun q wr => ∃ b : Nat, q = .int .i64 b ∧ b ≤ 12 ∧ Blk wr (w.heap.size + 1) (arrOf 12 fun k => .bool (belowAt l i b k)) 25 ∧ Blk wr w.heap.size (arrOf 12 fun x => .bool false) 25 ∧ Ch nob w wr) (fun q _ => 12 - (intOf q).toNat)
      case atStart => exact ⟨0, rfl, by omega, hb0, hb1, hc0⟩
      case round =>
        clear hb0 hb1 hc0
        obtain ⟨b, rfl, hb, hb0, hb1, hc0⟩ := hrel
        by_cases hlt2 : b < 12
        · have hx := hb0.cellOf b hlt2
          have hf := hb0.free b
          cases hv : belowAt l i b b
          · rw [hv] at hx
            go_wp2_with fail
            refine (implies_any _ _ _).mono ?_
            rintro e w1 ⟨rfl, hc1⟩
            have hb2 := hb0.ch hc1 (fun h => h)
            have hb3 := hb1.ch hc1 (fun h => h)
            have hc2 := hc0.seq hc1
            have hx2 := hb2.cellOf b hlt2
            have hf2 := hb2.free b
            have hb4 := (hb2.setOf b (.bool (impl z b))).congr (f' := fun k => .bool (belowAt l i (b + 1) k)) (fun k _ => by rw [← belowAt_step l i b k, hv, HZ.out]; rfl)
            have hb5 : Blk (w1.setCell ⟨w.heap.size + 1, b, none⟩ (.bool (impl z b))) w.heap.size (arrOf 12 fun x => .bool false) 25 := hb3.ch ((Ch.refl (· = w.heap.size + 1) w1).setCell _ _ (fun _ => rfl)) (by omega)
            have hc3 := hc2.setCell ⟨w.heap.size + 1, b, none⟩ (.bool (impl z b)) (fun h => by simp at h; omega)
            clear hb0 hb1 hc0 hc1 hb2 hb3 hc2 hx hf
            go_wp2_with fail
            go_roundw
            case rel => exact ⟨b + 1, by go_num, by omega, hb4, hb5, hc3⟩
            case measure => simp [intOf]; omega
          · rw [hv] at hx
            have hb4 := (hb0.setOf b (.bool true)).congr (f' := fun k => .bool (belowAt l i (b + 1) k)) (fun k _ => by rw [← belowAt_step l i b k, hv]; rfl)
            have hb5 : Blk (wr.setCell ⟨w.heap.size + 1, b, none⟩ (.bool true)) w.heap.size (arrOf 12 fun x => .bool false) 25 := hb1.ch ((Ch.refl (· = w.heap.size + 1) wr).setCell _ _ (fun _ => rfl)) (by omega)
            have hc3 := hc0.setCell ⟨w.heap.size + 1, b, none⟩ (.bool true) (fun h => by simp at h; omega)
            clear hb0 hb1 hc0
            go_wp2_with fail
            go_roundw
            case rel => exact ⟨b + 1, by go_num, by omega, hb4, hb5, hc3⟩
            case measure => simp [intOf]; omega
        · obtain rfl : b = 12 := by omega
          have hb4 := hb0.congr (f' := fun k => .bool (belowAt l (i + 1) 0 k)) (fun k hk => by rw [belowAt_next l i k hlt hk])
          clear hb0
          go_wp2_with fail
          go_roundw
          case rel => exact ⟨i + 1, by go_num, by omega, hb4, hb1, hc0⟩
          case measure => simp [intOf]; omega
    · obtain rfl : i = l.length := by omega
      have hb2 : Blk wr (w.heap.size + 1) (rowArr (belowF l)) 25 := hb0.congr (fun k hk => by rw [belowAt_all])
      clear hb0 hcells
      go_wp2_with (first | (refine wpList_load_row rfl 25 (.tmp 3) rfl (w.heap.size + 1) rfl 25 (rowArr (belowF l)) (0, 0) _ hb2 rfl rfl (by rw [rowArr, arrOf_size]; kernel_rfl) ?_) | (refine wpList_store_row rfl 25 (.tmp 2) (.tmp 28) rfl w.heap.size (rowArr (belowF l)) rfl rfl 25 _ hb1 (by rw [rowArr, arrOf_size]; kernel_rfl) (by rw [arrOf_size, rowArr, arrOf_size]) (arrOf_cells _ _ fun _ _ => rfl) ?_))
      have hb3 := hb1.row (rowArr (belowF l))
      have hc1 := hc0.setRow w.heap.size (rowArr (belowF l)) (fun h => by omega)
      exact bodyPost_ret (v := .agg (rowArr (belowF l))) (results_cell_row rfl _ _ w.heap.size 25 (rowArr (belowF l)) (0, 0) _ rfl hb3 rfl rfl (by rw [rowArr, arrOf_size]; kernel_rfl)) rfl ⟨rfl, hc1⟩
end Go.Proofs.Ytbpmcjndlbkkiaa
