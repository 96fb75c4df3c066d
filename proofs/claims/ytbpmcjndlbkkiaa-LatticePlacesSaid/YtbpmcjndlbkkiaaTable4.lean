/- The strongest levels of a row. No condition but each theorem's own. -/
import Derived.Test.YtbpmcjndlbkkiaaTable3
set_option linter.unusedVariables false
set_option linter.unusedSimpArgs false
namespace Go.Proofs.Ytbpmcjndlbkkiaa
open Go.RowKit
attribute [local go_sem ↓] zero_all zero_row

def topC (r : Nat → Bool) (b a : Nat) : Bool := a == b || !r a || !impl a b
def topR (r : Nat → Bool) (b n : Nat) : Bool := r b && (List.range n).all (topC r b)
theorem topR_succ (r : Nat → Bool) (b a : Nat) : topR r b (a + 1) = (topR r b a && topC r b a) := by unfold topR; rw [rangeAll_succ, Bool.and_assoc]
def strongTo (r : Nat → Bool) (n : Nat) : List Int := ((List.range n).filter fun b => topR r b 12).map fun i : Nat => (i : Int)
def strongR (r : Nat → Bool) : List Int := strongTo r 12
theorem strongTo_succ (r : Nat → Bool) (b : Nat) : strongTo r (b + 1) = strongTo r b ++ if topR r b 12 then [(b : Int)] else [] := by
  unfold strongTo
  rw [List.range_succ, List.filter_append, List.map_append]
  cases h : topR r b 12 <;> simp [h]
theorem strongTo_le (r : Nat → Bool) (b : Nat) : (strongTo r b).length ≤ b := by
  unfold strongTo
  rw [List.length_map]
  have := List.length_filter_le (fun b => topR r b 12) (List.range b)
  simpa using this

set_option maxHeartbeats 1000000 in
theorem strongest_row (r : Nat → Bool) (w : World) : Calls Try.prog 18 #[.agg (rowArr r)] w (RetOwn .i64 w 34 (strongR r)) := by
  go_enter Try.func18, Try.ntmps18
  go_wp2_with fail
  obtain ⟨hb0, hc0, hs0⟩ := one_new w (rowArr r) 25
  generalize w.alloc _ = w1 at hb0 hc0 hs0 ⊢
  refine (all_table _).mono ?_
  rintro e w2 ⟨rfl, hc1⟩
  have hb1 := hb0.ch hc1 (fun h => h)
  have hc2 := hc0.seq hc1
  have hs2 := hc1.size
  rw [hs0] at hs2
  obtain ⟨hz, hcz, hsz⟩ := one_new w2 (arrOf 144 fun _ => .bool false) 46
  have hb2 := hb1.ch hcz (fun h => h)
  have hch : Ch (· = w2.heap.size) (w2.alloc (.cells (arrOf 144 fun _ => .bool false) 46)) ((w2.alloc (.cells (arrOf 144 fun _ => .bool false) 46)).setRow w2.heap.size allArr) := (Ch.refl _ _).setRow _ _ (fun _ => rfl)
  have hb3 := hb2.ch hch (by omega)
  have hz2 := hz.row allArr
  have hc3 := (hc2.seq hcz).setRow w2.heap.size allArr (fun h => by omega)
  clear hb0 hc0 hc1 hb1 hc2 hb2 hch hcz
  have hlt2 : w.heap.size < w2.heap.size := by omega
  go_wp2_with (first | (refine wpList_store_row rfl 46 (.tmp 4) (.tmp 8) rfl w2.heap.size allArr rfl rfl 46 _ hz (by kernel_rfl) (by rw [arrOf_size]; rfl) all_cells ?_) | (refine wpList_load_row rfl 25 (.tmp 1) rfl w.heap.size rfl 25 (rowArr r) (0, 0) _ hb3 rfl rfl (by rw [rowArr, arrOf_size]; kernel_rfl) ?_))
  generalize hw3 : (w2.alloc _).setRow _ _ = w3 at hb3 hz2 hc3 ⊢
  clear hz hsz hw3
  go_loopw [3, 10] (fun o q wr => ∃ b : Nat, q = .int .i64 b ∧ b ≤ 12 ∧ Own wr w.heap.size 34 o (strongTo r b) ∧ Blk wr w.heap.size (rowArr r) 25 ∧ Blk wr w2.heap.size allArr 46 ∧ Ch nob w wr) (fun _ q _ => 12 - (intOf q).toNat)
  case atStart => exact ⟨0, rfl, by omega, OwnK.nil _ _ _ _, hb3, hz2, hc3⟩
  case round =>
    clear hb3 hz2 hc3
    obtain ⟨b, rfl, hb, ho, hb1, hz, hc⟩ := hrel
    by_cases hlt : b < 12
    · have hd : decide ((b : Int) < 12) = true := decide_eq_true (by omega)
      have hix := index_row r b hlt
      have HS := Lib.hid (strongTo_succ r b)
      have hle := strongTo_le r b
      have hrb : r b = topR r b 0 := by simp [topR]
      rw [hrb] at hix
      clear hrb
      go_wp2_with fail
      obtain ⟨wo, rfl⟩ : ∃ wo : World, wo = wr := ⟨_, rfl⟩
      go_loopw [6, 14] (fun x q wr => ∃ a : Nat, q = .int .i64 a ∧ a ≤ 12 ∧ x = .bool (topR r b a) ∧ wr = wo) (fun _ q _ => 12 - (intOf q).toNat)
      case atStart => exact ⟨0, rfl, by omega, rfl, rfl⟩
      case round =>
        clear hix
        obtain ⟨a, rfl, ha, rfl, rfl⟩ := hrel
        by_cases hlta : a < 12
        · have hd2 : decide ((a : Int) < 12) = true := decide_eq_true (by omega)
          have hxa := hb1.cellOf a hlta
          have hxz := hz.cellOf (a * 12 + b) (by omega)
          rw [allF_at a b hlt] at hxz
          have HT := Lib.hid (topR_succ r b a)
          cases ht : topR r b a
          · have ht2 := Lib.hid (show topR r b (a + 1) = false from by rw [HT.out, ht]; rfl)
            go_wp2_with fail
            go_roundw
            case rel => exact ⟨a + 1, by go_num, by omega, by rw [ht2.out], trivial⟩
            case measure => simp [intOf]; omega
          · by_cases hab : a = b
            · have ht2 := Lib.hid (show topR r b (a + 1) = true from by rw [HT.out, ht]; simp [topC, hab])
              have hq : ((a : Int) == (b : Int)) = true := by simp [hab]
              clear hab
              go_wp2_with fail
              go_roundw
              case rel => exact ⟨a + 1, by go_num, by omega, by rw [ht2.out], trivial⟩
              case measure => simp [intOf]; omega
            · have hq : ((a : Int) == (b : Int)) = false := by simp; omega
              cases h1 : r a
              · have ht2 := Lib.hid (show topR r b (a + 1) = true from by rw [HT.out, ht]; simp [topC, h1])
                rw [h1] at hxa
                clear h1
                go_wp2_with fail
                go_roundw
                case rel => exact ⟨a + 1, by go_num, by omega, by rw [ht2.out], trivial⟩
                case measure => simp [intOf]; omega
              · rw [h1] at hxa
                cases h2 : impl a b
                · have ht2 := Lib.hid (show topR r b (a + 1) = true from by rw [HT.out, ht]; simp [topC, h2])
                  rw [h2] at hxz
                  clear h1 h2
                  go_wp2_with fail
                  go_roundw
                  case rel => exact ⟨a + 1, by go_num, by omega, by rw [ht2.out], trivial⟩
                  case measure => simp [intOf]; omega
                · have ht2 := Lib.hid (show topR r b (a + 1) = false from by rw [HT.out, ht]; simp [topC, h1, h2, hab])
                  rw [h2] at hxz
                  clear h1 h2
                  go_wp2_with fail
                  go_roundw
                  case rel => exact ⟨a + 1, by go_num, by omega, by rw [ht2.out], trivial⟩
                  case measure => simp [intOf]; omega
        · obtain rfl : a = 12 := by omega
          cases ht : topR r b 12
          · have ho2 : Own wr w.heap.size 34 u3 (strongTo r (b + 1)) := by rw [HS.out, ht]; simpa using ho
            clear ho
            go_wp2_with fail
            go_roundw
            case rel => exact ⟨b + 1, by go_num, by omega, ho2, hb1, hz, hc⟩
            case measure => simp [intOf]; omega
          · have hof := Lib.hid (ho.alloc (.cells #[.int .i64 (b : Int)] 34))
            have hc2 := Lib.hid (hc.alloc (.cells #[.int .i64 (b : Int)] 34))
            have hb2 := Lib.hid (hb1.alloc (.cells #[.int .i64 (b : Int)] 34))
            have hz2 := Lib.hid (hz.alloc (.cells #[.int .i64 (b : Int)] 34))
            have hnb := Lib.hid (Blk.new wr #[.int .i64 (b : Int)] 34)
            have hge := hc2.out.size
            have HT := Lib.hid ht
            clear ho hc hb1 hz
            go_wp2_with (at_builtin; refine wpList_append_int rfl (.tmp 39) (.tmp 41) 30 34 rfl .i64 8 elem_level (by decide) w.heap.size u3 _ rfl hof.out wr.heap.size (b : Int) 34 rfl hnb.out (by omega) (by omega) ?_; intro v' w' hown hg; have hc4 := hc2.out.grown_own hg (fun b hb => (hof.out.ge b hb).1); have hown2 : Own w' w.heap.size 34 v' (strongTo r (b + 1)) := (by rw [HS.out, HT.out]; exact hown); have hb6 := hb2.out.grown hg (hof.out.ne hb2.out (by decide)); have hz6 := hz2.out.grown hg (hof.out.ne hz2.out (by decide)); clear hown hg)
            go_roundw
            case rel => exact ⟨b + 1, by go_num, by omega, hown2, hb6, hz6, hc4⟩
            case measure => simp [intOf]; omega
    · obtain rfl : b = 12 := by omega
      go_wp2_with fail
      go_ret
      exact ⟨_, rfl, ho, hc⟩
end Go.Proofs.Ytbpmcjndlbkkiaa
