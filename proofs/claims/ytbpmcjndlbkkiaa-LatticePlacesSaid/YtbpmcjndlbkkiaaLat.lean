/- Positions of rows among the levels, and their words. No condition but each theorem's own. -/
import Derived.Test.YtbpmcjndlbkkiaaLatPure
import Derived.Test.YtbpmcjndlbkkiaaOwnV
set_option linter.unusedVariables false
set_option linter.unusedSimpArgs false
namespace Go.Proofs.Ytbpmcjndlbkkiaa
open Go.RowKit
attribute [local go_sem ↓] zero_all zero_row

/-- What 'Of' hands back: a position. -/
def RetPos (w : World) (S L : List Int) (e : Ending) (w' : World) : Prop := ∃ v u, e = .returned (.agg #[v, u]) ∧ Ints w' v S ∧ Ints w' u L ∧ Ch nob w w'

set_option maxHeartbeats 1000000 in
theorem lat_of (r : Nat → Bool) (w : World) : Calls Try.prog 9 #[.agg (rowArr r)] w (RetPos w (strongR r) (weakR r)) := by
  obtain ⟨hb0, hp0, hc0, hs0⟩ := two_new w (rowArr r) #[.slice none 0 0, .slice none 0 0] 25 32
  go_enter Try.func9, Try.ntmps9
  go_wp2_with (refine wpList_load_row rfl 25 (.tmp 1) rfl w.heap.size rfl 25 (rowArr r) (0, 0) _ hb0 rfl rfl (by rw [rowArr, arrOf_size]; kernel_rfl) ?_)
  generalize (w.alloc _).alloc _ = w1 at hb0 hp0 hc0 hs0 ⊢
  refine (strongest_row r _).mono ?_
  rintro e w2 ⟨v, rfl, hov, hc1⟩
  obtain ⟨A, c, rfl⟩ := hov.ints.shape
  have hb1 := hb0.ch hc1 (fun h => h)
  have hp1 := hp0.ch hc1 (fun h => h)
  have hc2 := hc0.seq hc1
  have hs2 := hc1.size
  have hge2 := hc2.size
  clear hb0 hp0 hc0 hc1
  obtain ⟨hpn, hcn, hsn⟩ := one_new w2 #[.slice A (strongR r).length c, .slice none 0 0] 32
  have hb2 := hb1.ch hcn (fun h => h)
  have hp2 := hp1.ch hcn (fun h => h)
  have hc3 := hc2.seq hcn
  go_wp2_with (refine wpList_load_row rfl 25 (.tmp 1) rfl w.heap.size rfl 25 (rowArr r) (0, 0) _ hb2 rfl rfl (by rw [rowArr, arrOf_size]; kernel_rfl) ?_)
  generalize (w2.alloc _) = w3 at hpn hcn hsn hb2 hp2 hc3 ⊢
  have hvlt : ∀ b, (Value.slice A (strongR r).length c).ownBlock = some b → b < w2.heap.size := fun b hb => (hov.ge b hb).2
  have HV := Lib.hid hvlt
  have HW := Lib.hid (show ∀ b, (Value.slice A (strongR r).length c).ownBlock = some b → w1.heap.size ≤ b from fun b hb => (hov.ge b hb).1)
  have hv3 := hov.ints.keep hcn
  have hge3 : w.heap.size + 2 ≤ w2.heap.size := by omega
  have hsn3 := Lib.hid hsn
  clear hb1 hp1 hc2 hov hcn hvlt hsn
  go_loopw [13] (fun q wr => ∃ l : Nat, q = .int .i64 l ∧ l ≤ 12 ∧ ∃ u, Own wr w3.heap.size 34 u (weakTo r l) ∧ Blk wr w2.heap.size #[.slice A (strongR r).length c, u] 32 ∧ Blk wr w.heap.size (rowArr r) 25 ∧ Blk wr (w.heap.size + 1) #[.slice none 0 0, .slice none 0 0] 32 ∧ Ints wr (.slice A (strongR r).length c) (strongR r) ∧ Ch nob w wr ∧ w3.heap.size ≤ wr.heap.size) (fun q _ => 12 - (intOf q).toNat)
  case atStart => exact ⟨0, rfl, by omega, _, OwnK.nil _ _ _ _, hpn, hb2, hp2, hv3, hc3, Nat.le_refl _⟩
  case round =>
    clear hpn hb2 hp2 hc3 hv3
    obtain ⟨l, rfl, hl, u, hou, hpn, hb2, hp2, hv, hc, hge⟩ := hrel
    by_cases hlt : l < 12
    · have hd : decide ((l : Int) < 12) = true := decide_eq_true (by omega)
      have hix := index_row r l hlt
      have HS := Lib.hid (weakTo_succ r l)
      have hle := weakTo_le r l
      go_wp2_with (refine wpList_load_row rfl 25 (.tmp 1) rfl w.heap.size rfl 25 (rowArr r) (0, 0) _ hb2 rfl rfl (by rw [rowArr, arrOf_size]; kernel_rfl) ?_)
      obtain ⟨wo, rfl⟩ : ∃ wo : World, wo = wr := ⟨_, rfl⟩
      go_loopw [6, 20] (fun x q wr => ∃ b : Nat, q = .int .i64 b ∧ b ≤ 12 ∧ x = .bool (lowR r l b) ∧ Ch nob wo wr) (fun _ q _ => 12 - (intOf q).toNat)
      case atStart => exact ⟨0, rfl, by omega, by rw [lowR_zero], Ch.refl _ _⟩
      case round =>
        clear hix
        obtain ⟨b, rfl, hb, rfl, hcr⟩ := hrel
        by_cases hltb : b < 12
        · have hd2 : decide ((b : Int) < 12) = true := decide_eq_true (by omega)
          have hix := index_row r b hltb
          have HT := Lib.hid (lowR_succ r l b)
          cases ht : lowR r l b
          · have ht2 := Lib.hid (show lowR r l (b + 1) = false from by rw [HT.out, ht]; rfl)
            go_wp2_with fail
            go_roundw
            case rel => exact ⟨b + 1, by go_num, by omega, by rw [ht2.out], hcr⟩
            case measure => simp [intOf]; omega
          · cases h1 : r b
            · rw [h1] at hix
              by_cases hab : b = l
              · have ht2 := Lib.hid (show lowR r l (b + 1) = true from by rw [HT.out, ht]; simp [lowC, hab])
                have hq : ((b : Int) == (l : Int)) = true := by simp [hab]
                clear hab h1
                go_wp2_with fail
                go_roundw
                case rel => exact ⟨b + 1, by go_num, by omega, by rw [ht2.out], hcr⟩
                case measure => simp [intOf]; omega
              · have hq : ((b : Int) == (l : Int)) = false := by simp; omega
                have ht2 := Lib.hid (show lowR r l (b + 1) = !impl l b from by rw [HT.out, ht]; simp [lowC, h1, hab])
                clear h1
                go_wp2_with fail
                refine (implies_any _ _ _).mono ?_
                rintro e w5 ⟨rfl, hc5⟩
                have hcr2 := hcr.seq hc5
                clear hcr hc5
                go_wp2_with fail
                go_roundw
                case rel => exact ⟨b + 1, by go_num, by omega, by rw [ht2.out], hcr2⟩
                case measure => simp [intOf]; omega
            · rw [h1] at hix
              have ht2 := Lib.hid (show lowR r l (b + 1) = true from by rw [HT.out, ht]; simp [lowC, h1])
              clear h1
              go_wp2_with fail
              go_roundw
              case rel => exact ⟨b + 1, by go_num, by omega, by rw [ht2.out], hcr⟩
              case measure => simp [intOf]; omega
        · obtain rfl : b = 12 := by omega
          have hou2 := hou.keep hcr
          have hpn2 := hpn.ch hcr (fun h => h)
          have hb3 := hb2.ch hcr (fun h => h)
          have hp3 := hp2.ch hcr (fun h => h)
          have hv2 := hv.keep hcr
          have hc2 := hc.seq hcr
          have hge2 : w3.heap.size ≤ wr.heap.size := Nat.le_trans hge hcr.size
          clear hou hpn hb2 hp2 hv hc hcr hge
          cases ht : lowR r l 12
          · have ho2 : Own wr w3.heap.size 34 u (weakTo r (l + 1)) := by rw [HS.out, ht]; simpa using hou2
            clear hou2
            go_wp2_with fail
            go_roundw
            case rel => exact ⟨l + 1, by go_num, by omega, u, ho2, hpn2, hb3, hp3, hv2, hc2, hge2⟩
            case measure => simp [intOf]; omega
          · have hx1 := hpn2.cell (i := 1) (v := u) rfl
            have hof := Lib.hid (hou2.alloc (.cells #[.int .i64 (l : Int)] 34))
            have hc3 := Lib.hid (hc2.alloc (.cells #[.int .i64 (l : Int)] 34))
            have hpn3 := Lib.hid (hpn2.alloc (.cells #[.int .i64 (l : Int)] 34))
            have hb4 := Lib.hid (hb3.alloc (.cells #[.int .i64 (l : Int)] 34))
            have hp4 := Lib.hid (hp3.alloc (.cells #[.int .i64 (l : Int)] 34))
            have hv3 := Lib.hid (hv2.keep ((Ch.refl nob wr).alloc (.cells #[.int .i64 (l : Int)] 34)))
            have hnb := Lib.hid (Blk.new wr #[.int .i64 (l : Int)] 34)
            have HT := Lib.hid ht
            have hs5 := hc3.out.size
            clear hou2 hc2 hpn2 hb3 hp3 hv2
            go_wp2_with (at_builtin; refine wpList_append_int rfl (.tmp 42) (.tmp 44) 30 34 rfl .i64 8 elem_level (by decide) w3.heap.size u _ rfl hof.out wr.heap.size (l : Int) 34 rfl hnb.out (by omega) (by simp; omega) ?_; intro v' w' hown hg; have hc4 := hc3.out.grown_own hg (fun b hb => by have h1 := (hof.out.ge b hb).1; have h3 := hsn3.out; omega); have hown2 : Own w' w3.heap.size 34 v' (weakTo r (l + 1)) := (by rw [HS.out, HT.out]; exact hown); have hpn6 := hpn3.out.grown hg (hof.out.ne hpn3.out (by decide)); have hb6 := hb4.out.grown hg (hof.out.ne hb4.out (by decide)); have hp6 := hp4.out.grown hg (hof.out.ne hp4.out (by decide)); have hv6 := hv3.out.grown hg (fun b hb he => by have h1 := (hof.out.ge b he).1; have h2 := HV.out b hb; have h3 := hsn3.out; omega); have hgs : w3.heap.size ≤ w'.heap.size := Nat.le_trans (by simp; omega) hg.size; have hx6 := hpn6.cell (i := 1) (v := u) rfl; have hf6 := hpn6.free 1; obtain ⟨a5, c5, rfl⟩ := hown2.ints.shape; clear hown hg hx1)
            have hch : Ch (· = w2.heap.size) w' (w'.setCell ⟨w2.heap.size, 1, none⟩ (.slice a5 (weakTo r (l + 1)).length c5)) := (Ch.refl _ _).setCell _ _ (fun _ => rfl)
            have hpn7 := hpn6.set 1 (.slice a5 (weakTo r (l + 1)).length c5)
            have hou7 := hown2.other hch (hown2.ne hpn6 (by decide))
            have hb7 := hb6.ch hch (by omega)
            have hp7 := hp6.ch hch (by omega)
            have hv7 := hv6.ch hch (fun b hb he => by have h1 := HV.out b hb; have h2 : b = w2.heap.size := he; omega)
            have hc7 := hc4.setCell ⟨w2.heap.size, 1, none⟩ (.slice a5 (weakTo r (l + 1)).length c5) (fun h => by simp at h; omega)
            have hgs7 : w3.heap.size ≤ (w'.setCell ⟨w2.heap.size, 1, none⟩ (.slice a5 (weakTo r (l + 1)).length c5)).heap.size := by simp [World.setCell]; exact hgs
            go_roundw
            case rel => exact ⟨l + 1, by go_num, by omega, .slice a5 (weakTo r (l + 1)).length c5, hou7, hpn7, hb7, hp7, hv7, hc7, hgs7⟩
            case measure => simp [intOf]; omega
    · obtain rfl : l = 12 := by omega
      obtain ⟨a2, c2, rfl⟩ := hou.ints.shape
      go_wp2_with (first | (refine wpList_load_row rfl 32 (.tmp 3) rfl w2.heap.size rfl 32 #[.slice A (strongR r).length c, .slice a2 (weakTo r 12).length c2] (0, 0) _ hpn rfl rfl (show _ = some 2 by kernel_rfl) ?_) | (refine wpList_store_row rfl 32 (.tmp 2) (.tmp 48) rfl (w.heap.size + 1) #[.slice A (strongR r).length c, .slice a2 (weakTo r 12).length c2] rfl rfl 32 _ hp2 (show _ = some 2 by kernel_rfl) rfl (by simp [Value.oneCell']) ?_))
      have hp3 := hp2.row #[.slice A (strongR r).length c, .slice a2 (weakTo r 12).length c2]
      have hch : Ch (· = w.heap.size + 1) wr (wr.setRow (w.heap.size + 1) #[.slice A (strongR r).length c, .slice a2 (weakTo r 12).length c2]) := (Ch.refl _ _).setRow _ _ (fun _ => rfl)
      have hc1 := hc.setRow (w.heap.size + 1) #[.slice A (strongR r).length c, .slice a2 (weakTo r 12).length c2] (fun h => by omega)
      have hv2 := hv.ch hch (fun b hb he => by have h1 := HW.out b hb; have h2 : b = w.heap.size + 1 := he; omega)
      have hou2 := (hou.other hch (hou.ne hp2 (by decide))).ints
      exact bodyPost_ret (v := .agg #[.slice A (strongR r).length c, .slice a2 (weakTo r 12).length c2]) (results_cell_row rfl _ _ (w.heap.size + 1) 32 #[.slice A (strongR r).length c, .slice a2 (weakTo r 12).length c2] (0, 0) _ rfl hp3 rfl rfl (show _ = some 2 by kernel_rfl)) rfl ⟨_, _, rfl, hv2, hou2, hc1⟩

theorem lat_row (v u : Value) (S : List Int) (w : World) (hS : Ints w v S) : Calls Try.prog 12 #[.agg #[v, u]] w fun e w' => e = .returned (.agg (rowArr (belowF S))) ∧ Ch nob w w' := by
  obtain ⟨a1, c1, rfl⟩ := hS.shape
  obtain ⟨hb0, hp0, hc0, hs0⟩ := two_new w #[.slice a1 S.length c1, u] (arrOf 12 fun _ => .bool false) 32 25
  have hx0 := hb0.cell (i := 0) (v := .slice a1 S.length c1) rfl
  go_enter Try.func12, Try.ntmps12
  go_wp2_with fail
  generalize (w.alloc _).alloc _ = w1 at hb0 hp0 hc0 hs0 hx0 ⊢
  refine (below_table _ S _ (hS.keep hc0)).mono ?_
  rintro e w2 ⟨rfl, hc1⟩
  have hp1 := hp0.ch hc1 (fun h => h)
  have hc2 := hc0.seq hc1
  go_wp2_with (refine wpList_store_row rfl 25 (.tmp 2) (.tmp 5) rfl (w.heap.size + 1) (rowArr (belowF S)) rfl rfl 25 _ hp1 (by rw [rowArr, arrOf_size]; kernel_rfl) (by rw [arrOf_size, rowArr, arrOf_size]) (arrOf_cells _ _ fun _ _ => rfl) ?_)
  have hp2 := hp1.row (rowArr (belowF S))
  have hc3 := hc2.setRow (w.heap.size + 1) (rowArr (belowF S)) (fun h => by omega)
  exact bodyPost_ret (v := .agg (rowArr (belowF S))) (results_cell_row rfl _ _ (w.heap.size + 1) 25 (rowArr (belowF S)) (0, 0) _ rfl hp2 rfl rfl (by rw [rowArr, arrOf_size]; kernel_rfl)) rfl ⟨rfl, hc3⟩
end Go.Proofs.Ytbpmcjndlbkkiaa
