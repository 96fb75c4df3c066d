/- A law of package burgagelaw19 answers true, whatever its argument: LatticeBack. No condition. -/
import Derived.Test.YtbpmcjndlbkkiaaLatLaws
set_option linter.unusedVariables false
set_option linter.unusedSimpArgs false
namespace Go.Proofs.Ytbpmcjndlbkkiaa
open Go.RowKit
attribute [local go_sem ↓] zero_all zero_row

set_option maxHeartbeats 4000000 in
theorem law_latback (n : Int) (hn : 0 ≤ n ∧ n ≤ 65535) (w : World) :
    Calls Try.prog 4 #[.int .u16 n] w fun e w' => e = .returned (.bool true) ∧ Below w.heap.size w w' := by
  obtain ⟨h0, h1⟩ := hn
  go_enter Try.func4, Try.ntmps4
  go_wp2_with fail
  refine (speaks19 _).mono ?_
  rintro e w1 ⟨rfl, hc⟩
  go_wp2_with fail
  refine (row_law19 n _ h0 h1).mono ?_
  rintro e w2 ⟨rfl, hc2⟩
  generalize bitAt n = r
  replace hc := hc.seq hc2
  have hg2 := hc.size
  clear hc2
  obtain ⟨hz, hcz, hsz⟩ := one_new w2 (arrOf 12 fun _ => .bool false) 25
  have hb := hz.row (rowArr r)
  have hch : Ch nob w2 ((w2.alloc (.cells (arrOf 12 fun _ => .bool false) 25)).setRow w2.heap.size (rowArr r)) := hcz.setRow _ _ (fun h => by omega)
  replace hc := hc.seq hch
  clear hcz hsz hch
  go_wp2_with (first | (refine wpList_store_row rfl 25 (.tmp 3) (.tmp 15) rfl w2.heap.size (rowArr r) rfl rfl 25 _ hz (by rw [rowArr, arrOf_size]; kernel_rfl) (by rw [arrOf_size, rowArr, arrOf_size]) (arrOf_cells _ _ fun _ _ => rfl) ?_) | (refine wpList_load_row rfl 25 (.tmp 3) rfl w2.heap.size rfl 25 (rowArr r) (0, 0) _ hb rfl rfl (by rw [rowArr, arrOf_size]; kernel_rfl) ?_))
  generalize (w2.alloc _).setRow _ _ = w3 at hb hc ⊢
  clear hz
  go_loopw [4, 17] (fun o q wr => ∃ k : Nat, q = .int .i64 k ∧ k ≤ 12 ∧ Own wr w3.heap.size 3 o (levTo r k) ∧ Ch nob w3 wr) (fun _ q _ => 12 - (intOf q).toNat)
  case atStart => exact ⟨0, rfl, by omega, OwnK.nil _ _ _ _, Ch.refl _ _⟩
  case round =>
    obtain ⟨k, rfl, hk, ho, hcr⟩ := hrel
    by_cases hlt : k < 12
    · have hix := index_row r k hlt
      have hle := levTo_le r k
      have HLS := Lib.hid (levTo_succ r k)
      cases hrk : r k
      · rw [hrk] at hix
        have ho2 : Own wr w3.heap.size 3 u4 (levTo r (k + 1)) := by rw [HLS.out, hrk]; simpa using ho
        clear ho hrk
        go_wp2_with fail
        go_roundw
        case rel => exact ⟨k + 1, by go_num, by omega, ho2, hcr⟩
        case measure => simp [intOf]; omega
      · rw [hrk] at hix
        have HRK := Lib.hid hrk
        have hof := Lib.hid (ho.alloc (.cells #[.int .i64 (k : Int)] 3))
        have hc2 := Lib.hid (hcr.alloc (.cells #[.int .i64 (k : Int)] 3))
        have hnb := Lib.hid (Blk.new wr #[.int .i64 (k : Int)] 3)
        have hge := hc2.out.size
        clear ho hcr hrk
        go_wp2_with (at_builtin; refine wpList_append_int rfl (.tmp 22) (.tmp 24) 27 3 rfl .i64 8 elem_int (by decide) w3.heap.size u4 _ rfl hof.out wr.heap.size (k : Int) 3 rfl hnb.out (by omega) (by omega) ?_; intro v' w' hown hg; have hc4 := hc2.out.grown_own hg (fun b hb => (hof.out.ge b hb).1); have hown2 : Own w' w3.heap.size 3 v' (levTo r (k + 1)) := (by rw [HLS.out, HRK.out]; exact hown); clear hown hg)
        go_roundw
        case rel => exact ⟨k + 1, by go_num, by omega, hown2, hc4⟩
        case measure => simp [intOf]; omega
    · obtain rfl : k = 12 := by omega
      have hil : Ints wr u4 (listR r) := ho.ints
      have hbr := hb.ch hcr (fun h => h)
      have hcc := hc.seq hcr
      clear ho hb hc hcr
      go_wp2_with (refine wpList_load_row rfl 25 (.tmp 3) rfl w2.heap.size rfl 25 (rowArr r) (0, 0) _ hbr rfl rfl (by rw [rowArr, arrOf_size]; kernel_rfl) ?_)
      refine (lat_of r _).mono ?_
      rintro e w5 ⟨v, u, rfl, hv, hu, hc5⟩
      have hbr5 := hbr.ch hc5 (fun h => h)
      have hil5 := hil.keep hc5
      have hcc5 := hcc.seq hc5
      clear hbr hil hcc hc5 hu
      go_wp2_with fail
      refine (lat_row v u (strongR r) _ hv).mono ?_
      rintro e w6 ⟨rfl, hc6⟩
      have hbr6 := hbr5.ch hc6 (fun h => h)
      have hil6 := hil5.keep hc6
      have hcc6 := hcc5.seq hc6
      clear hbr5 hil5 hcc5 hc6 hv
      obtain ⟨hz, hcz, hsz⟩ := one_new w6 (arrOf 12 fun _ => .bool false) 25
      have hzb := hz.row (rowArr (belowF (strongR r)))
      have hch : Ch nob w6 ((w6.alloc (.cells (arrOf 12 fun _ => .bool false) 25)).setRow w6.heap.size (rowArr (belowF (strongR r)))) := hcz.setRow _ _ (fun h => by omega)
      have hbr7 := hbr6.ch hch (fun h => h)
      have hil7 := Lib.hid (hil6.keep hch)
      have hcc7 := hcc6.seq hch
      clear hbr6 hil6 hcc6 hcz hsz hch
      go_wp2_with (refine wpList_store_row rfl 25 (.tmp 7) (.tmp 29) rfl w6.heap.size (rowArr (belowF (strongR r))) rfl rfl 25 _ hz (by rw [rowArr, arrOf_size]; kernel_rfl) (by rw [arrOf_size, rowArr, arrOf_size]) (arrOf_cells _ _ fun _ _ => rfl) ?_)
      generalize (w6.alloc _).setRow _ _ = w7 at hzb hbr7 hil7 hcc7 ⊢
      clear hz
      obtain ⟨Al, cl, rfl⟩ := hil7.out.shape
      go_loopw [30] (fun q wr => ∃ b : Nat, q = .int .i64 b ∧ b ≤ 12 ∧ wr = w7) (fun q _ => 12 - (intOf q).toNat)
      case atStart => exact ⟨0, rfl, by omega, rfl⟩
      case round =>
        obtain ⟨b, rfl, hb, rfl⟩ := hrel
        by_cases hltb : b < 12
        · have hd : decide ((b : Int) < 12) = true := decide_eq_true (by omega)
          have hxb := hzb.cellOf b hltb
          have HBR := Lib.hid (below_rows r b hltb)
          have HIA := Lib.hid (impTo_all (listR r) b)
          go_wp2_with fail
          obtain ⟨wo, rfl⟩ : ∃ wo : World, wo = wr := ⟨_, rfl⟩
          go_loopw [9, 35] (fun x q wr => ∃ a : Nat, q = .int .i64 a ∧ a ≤ (listR r).length ∧ x = .bool (impTo (listR r) b a) ∧ wr = wo) (fun _ q _ => (listR r).length - (intOf q).toNat)
          case atStart => exact ⟨0, rfl, by omega, rfl, rfl⟩
          case round =>
            obtain ⟨a, rfl, ha, rfl, rfl⟩ := hrel
            by_cases hlta : a < (listR r).length
            · obtain ⟨_, _, hcells⟩ := hil7.out.at
              obtain ⟨ad, rfl, hx⟩ := hcells a hlta
              clear hcells
              have HI := Lib.hid (impTo_succ (listR r) b a hlta)
              generalize (listR r).getD a 0 = z at hx HI
              cases hi : impTo (listR r) b a
              · go_wp2_with fail
                refine (implies_ref _ _ _).mono ?_
                rintro e w11 ⟨rfl, rfl⟩
                have hi2 := Lib.hid (show impTo (listR r) b (a + 1) = impl z b from by rw [HI.out, hi]; rfl)
                clear hi
                go_wp2_with fail
                go_roundw
                case rel => exact ⟨a + 1, by go_num, by omega, by rw [hi2.out], trivial⟩
                case measure => simp [intOf]; omega
              · have hi2 := Lib.hid (show impTo (listR r) b (a + 1) = true from by rw [HI.out, hi]; rfl)
                clear hi
                go_wp2_with fail
                go_roundw
                case rel => exact ⟨a + 1, by go_num, by omega, by rw [hi2.out], trivial⟩
                case measure => simp [intOf]; omega
            · obtain rfl : a = (listR r).length := by omega
              rw [HIA.out, ← HBR.out]
              have hqq : (belowF (strongR r) b != belowF (strongR r) b) = false := by simp
              go_wp2_with fail
              go_roundw
              case rel => exact ⟨b + 1, by go_num, by omega, trivial⟩
              case measure => simp [intOf]; omega
        · obtain rfl : b = 12 := by omega
          have HBC := Lib.hid (below_closed r)
          have HCL := Lib.hid (closed_rows r)
          go_wp2_with fail
          refine (closed_ref10 _ (listR r) _ hil7.out).mono ?_
          rintro e w8 ⟨rfl, rfl⟩
          rw [← HCL.out]
          cases hcl : closedF r
          · go_wp2_with fail
            go_ret
            exact ⟨rfl, hcc7.below⟩
          · have hrr : rowArr (belowF (strongR r)) = rowArr r := rowArr_ext (HBC.out hcl)
            rw [hrr] at hzb
            have heq := fun w => eql_row r r w
            simp only [BEq.rfl] at heq
            go_wp2_with (first | (refine wpList_load_rowG rfl 25 (.tmp 7) rfl w6.heap.size rfl 25 (rowArr r) (0, 0) _ hzb rfl rfl (by rw [rowArr, arrOf_size]; kernel_rfl) ?_) | (refine wpList_load_rowG rfl 25 (.tmp 3) rfl w2.heap.size rfl 25 (rowArr r) (0, 0) _ hbr7 rfl rfl (by rw [rowArr, arrOf_size]; kernel_rfl) ?_))
            go_ret
            exact ⟨ret_bool (by simp), hcc7.below⟩
end Go.Proofs.Ytbpmcjndlbkkiaa
