/- Laws of package burgagelaw19: what they lean on. No condition but each theorem's own. -/
import Derived.Test.YtbpmcjndlbkkiaaLat
import Derived.Test.YtbpmcjndlbkkiaaLatText
import Derived.Test.YtbpmcjndlbkkiaaTableLaws3
set_option linter.unusedVariables false
set_option linter.unusedSimpArgs false
namespace Go.Proofs.Ytbpmcjndlbkkiaa
open Go.RowKit
attribute [local go_sem ↓] zero_all zero_row

/-- Two rows of a call's own with nothing in common lie apart. -/
theorem OwnK.apart {w : World} {base base' e e' : Nat} {v u : Value} {xs ys : List Int} (h : Own w base e v xs) (h' : Own w base' e' u ys) (hx : xs ≠ []) (hu : ys = [] → u.ownBlock = none) (hd : ∀ x ∈ xs, x ∉ ys) : ∀ b, v.ownBlock = some b → u.ownBlock ≠ some b := by
  intro b hb hub
  have hy : ys ≠ [] := fun h0 => by rw [hu h0] at hub; cases hub
  obtain ⟨x, xs', rfl⟩ := List.exists_cons_of_ne_nil hx
  obtain ⟨y, ys', rfl⟩ := List.exists_cons_of_ne_nil hy
  have h1 := World.ownsRow.cells h (g := b) hb 0 (.int .i64 x) rfl
  have h2 := World.ownsRow.cells h' (g := b) hub 0 (.int .i64 y) rfl
  rw [h1] at h2
  have : x = y := by simpa using h2
  exact hd x (by simp) (by simp [this])

theorem row_law19 (n : Int) (w : World) (h0 : 0 ≤ n) (h1 : n ≤ 65535) : Calls Try.prog 6 #[.int .u16 n] w fun e w' => e = .returned (.agg (rowArr (bitAt n))) ∧ Ch nob w w' := by
  go_enter Try.func6, Try.ntmps6
  go_wp2_with fail
  obtain ⟨hb1, hb0, hc0, _⟩ := two_new w (arrOf 12 fun _ => .bool false) (arrOf 12 fun _ => .bool false) 25 25
  generalize (w.alloc _).alloc _ = w2 at hb1 hb0 hc0 ⊢
  go_loopw [5] (fun q wr => ∃ k : Nat, q = .int .i64 k ∧ k ≤ 12 ∧ Blk wr (w.heap.size + 1) (arrOf 12 fun j => .bool (decide (j < k) && bitAt n j)) 25 ∧ Blk wr w.heap.size (arrOf 12 fun x => .bool false) 25 ∧ Ch nob w wr) (fun q _ => 12 - (intOf q).toNat)
  case atStart => exact ⟨0, rfl, by omega, hb0, hb1, hc0⟩
  case round =>
    clear hb0 hb1 hc0
    obtain ⟨k, rfl, hk, hb0, hb1, hc⟩ := hrel
    by_cases hlt : k < 12
    · have hf := hb0.free k
      have hx := hb0.cellOf k hlt
      have hw := bit_ways n k h0 h1
      have hb2 := (hb0.setOf k (.bool (bitAt n k))).congr (f' := fun j => .bool (decide (j < k + 1) && bitAt n j)) (fun j _ => by
        rw [bit_step n k _ rfl j]
        by_cases h : j = k
        · rw [if_pos h, if_pos h]
        · rw [if_neg h, if_neg h])
      have hch : Ch (· = w.heap.size + 1) wr (wr.setCell ⟨w.heap.size + 1, k, none⟩ (.bool (bitAt n k))) := (Ch.refl _ _).setCell _ _ (fun _ => rfl)
      have hb3 : Blk (wr.setCell ⟨w.heap.size + 1, k, none⟩ (.bool (bitAt n k))) w.heap.size (arrOf 12 fun x => .bool false) 25 := hb1.ch hch (by omega)
      have hc2 := hc.setCell ⟨w.heap.size + 1, k, none⟩ (.bool (bitAt n k)) (fun h => by simp at h; omega)
      clear hb0 hb1 hc hch
      go_wp2_with fail
      go_roundw
      case rel => exact ⟨k + 1, by go_num, by omega, hb2, hb3, hc2⟩
      case measure => simp [intOf]; omega
    · obtain rfl : k = 12 := by omega
      have hb2 : Blk wr (w.heap.size + 1) (rowArr (bitAt n)) 25 := hb0.congr (fun j hj => by rw [decide_eq_true (by omega)]; rfl)
      clear hb0
      go_wp2_with (first | (refine wpList_load_row rfl 25 (.tmp 3) rfl (w.heap.size + 1) rfl 25 (rowArr (bitAt n)) (0, 0) _ hb2 rfl rfl (by rw [rowArr, arrOf_size]; kernel_rfl) ?_) | (refine wpList_store_row rfl 25 (.tmp 2) (.tmp 16) rfl w.heap.size (rowArr (bitAt n)) rfl rfl 25 _ hb1 (by rw [rowArr, arrOf_size]; kernel_rfl) (by rw [arrOf_size, rowArr, arrOf_size]) (arrOf_cells _ _ fun _ _ => rfl) ?_))
      have hb3 := hb1.row (rowArr (bitAt n))
      have hc1 := hc.setRow w.heap.size (rowArr (bitAt n)) (fun h => by omega)
      exact bodyPost_ret (v := .agg (rowArr (bitAt n))) (results_cell_row rfl _ _ w.heap.size 25 (rowArr (bitAt n)) (0, 0) _ rfl hb3 rfl rfl (by rw [rowArr, arrOf_size]; kernel_rfl)) rfl ⟨rfl, hc1⟩

theorem speaks19 (w : World) : Calls Try.prog 5 #[] w fun e w' => e = .returned (.bool true) ∧ Ch nob w w' := by
  obtain ⟨hb, hc, _⟩ := one_new w #[.int .i64 7] 34
  go_enter Try.func5, Try.ntmps5
  go_wp2_with fail
  generalize w.alloc _ = w1 at hb hc ⊢
  refine (below_table _ [7] _ ⟨some ⟨w.heap.size, 0, none⟩, 1, rfl, by simp, fun _ => ⟨_, rfl, fun j hj => by
    obtain rfl : j = 0 := by simpa using hj
    exact hb.cell rfl⟩⟩).mono ?_
  rintro e w2 ⟨rfl, hc2⟩
  have hc3 := hc.seq hc2
  clear hb hc hc2
  go_wp2_with fail
  refine (lat_of (belowF [7]) _).mono ?_
  rintro e w3 ⟨v, u, rfl, hv, hu, hc4⟩
  rw [show strongR (belowF [7]) = [7] from by decide +kernel] at hv
  rw [show weakR (belowF [7]) = [8] from by decide +kernel] at hu
  obtain ⟨a1, c1, rfl⟩ := hv.shape
  obtain ⟨a2, c2, rfl⟩ := hu.shape
  have hc5 := hc3.seq hc4
  clear hc3 hc4
  obtain ⟨hpn, hcn, hsn⟩ := one_new w3 #[.slice a1 1 c1, .slice a2 1 c2] 32
  have ht1 : ((textB [7] [8]).toList == ([115, 116, 114, 111, 110, 103, 101, 115, 116, 32, 115, 101, 114, 105, 97, 108, 10, 98, 101, 121, 111, 110, 100, 32, 116, 105, 109, 101, 45, 99, 97, 117, 115, 97, 108, 10] : List UInt8)) = true := by decide +kernel
  have ht2 : ((textB [] [0]).toList == ([115, 116, 114, 111, 110, 103, 101, 115, 116, 32, 45, 10, 98, 101, 121, 111, 110, 100, 32, 114, 101, 97, 100, 45, 97, 116, 111, 109, 105, 99, 10] : List UInt8)) = true := by decide +kernel
  go_wp2_with fail
  generalize (w3.alloc _) = w4 at hpn hcn hsn ⊢
  refine (lat_text (.slice a1 1 c1) (.slice a2 1 c2) [7] [8] _ (hv.keep hcn) (hu.keep hcn) (by decide) (by decide)).mono ?_
  rintro e w5 ⟨rfl, hc6⟩
  have hpn5 := hpn.ch hc6 (fun h => h)
  have hv5 := (hv.keep hcn).keep hc6
  have hc7 := (hc5.seq hcn).seq hc6
  generalize textB [7] [8] = T1 at ht1 ⊢
  clear hpn hv hu hcn hsn hc5 hc6
  have hx0 := hpn5.cell (i := 0) (v := .slice a1 1 c1) rfl
  have hx1 := hpn5.cell (i := 1) (v := .slice a2 1 c2) rfl
  go_wp2_with fail
  clear hx0 hx1
  refine (lat_row (.slice a1 1 c1) _ [7] _ hv5).mono ?_
  rintro e w6 ⟨rfl, hc8⟩
  have hc9 := hc7.seq hc8
  clear hpn5 hv5 hc7 hc8
  obtain ⟨hb, hc, hs⟩ := one_new w6 #[.int .i64 7] 34
  go_wp2_with fail
  generalize w6.alloc _ = w7 at hb hc hs ⊢
  refine (below_table _ [7] _ ⟨some ⟨w6.heap.size, 0, none⟩, 1, rfl, by simp, fun _ => ⟨_, rfl, fun j hj => by
    obtain rfl : j = 0 := by simpa using hj
    exact hb.cell rfl⟩⟩).mono ?_
  rintro e w8 ⟨rfl, hc2⟩
  have hc10 := (hc9.seq hc).seq hc2
  clear hb hc hs hc2 hc9
  have heq := fun w => eql_row (belowF [7]) (belowF [7]) w
  simp only [BEq.rfl] at heq
  go_wp2_with fail
  refine (lat_of (fun _ => false) _).mono ?_
  rintro e w9 ⟨v, u, rfl, hv, hu, hc4⟩
  rw [show strongR (fun _ => false) = [] from by decide +kernel] at hv
  rw [show weakR (fun _ => false) = [0] from by decide +kernel] at hu
  obtain ⟨a3, c3, rfl⟩ := hv.shape
  obtain ⟨a4, c4, rfl⟩ := hu.shape
  have hc11 := hc10.seq hc4
  clear hc10 hc4
  go_wp2_with fail
  refine (lat_text (.slice a3 0 c3) (.slice a4 1 c4) [] [0] _ hv hu (by decide) (by decide)).mono ?_
  rintro e w10 ⟨rfl, hc12⟩
  have hc13 := hc11.seq hc12
  generalize textB [] [0] = T2 at ht2 ⊢
  go_wp2_with fail
  go_ret
  exact ⟨rfl, hc13⟩
end Go.Proofs.Ytbpmcjndlbkkiaa
