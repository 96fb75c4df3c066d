/- A law of package burgagelaw10 answers true, whatever its argument: TableRows. No condition. -/
import Derived.Test.YtkpkdacifbolkaaTablePure2
import Derived.Test.YtkpkdacifbolkaaArrEq
set_option linter.unusedVariables false
set_option linter.unusedSimpArgs false
namespace Go.Proofs.Ytkpkdacifbolkaa
open Go.RowKit
attribute [local go_sem ↓] zero_all zero_row

theorem eql_row (r s : Nat → Bool) (w : World) : (binOp .eql 44 (.agg (rowArr r)) (.agg (rowArr s))).run Try.prog w = .ok (.bool ((List.range 12).all fun k => r k == s k)) w :=
  run_eql_arr _ 4 12 (by kernel_rfl) _ _ w _ (by kernel_rfl) (by kernel_rfl) (fun i hi => run_equalIn_bool' _ 9998 4 _ _ (by kernel_rfl))

theorem levels_listR (n : Int) : levelsOf n = listR (bitAt n) := rfl
theorem listR_len (r : Nat → Bool) : (listR r).length ≤ 12 := by
  unfold listR
  rw [List.length_map]
  have := List.length_filter_le r (List.range 12)
  simpa using this
theorem take_snoc (l : List Int) (k : Nat) (h : k < l.length) : l.take (k + 1) = l.take k ++ [l.getD k 0] := by
  rw [List.take_add_one, List.getElem?_eq_getElem h, List.getD_eq_getElem?_getD, List.getElem?_eq_getElem h]; rfl
def impTo (l : List Int) (b k : Nat) : Bool := (l.take k).any fun a => impl a b
theorem impTo_succ (l : List Int) (b k : Nat) (h : k < l.length) : impTo l b (k + 1) = (impTo l b k || impl (l.getD k 0) b) := any_take_succ l _ k h
theorem impTo_all (l : List Int) (b : Nat) : impTo l b l.length = l.any fun a => impl a b := by unfold impTo; rw [List.take_length]

set_option maxHeartbeats 4000000 in
theorem law_rows (n : Int) (hn : 0 ≤ n ∧ n ≤ 65535) (w : World) :
    Calls Try.prog 10 #[.int .u16 n] w fun e w' => e = .returned (.bool true) ∧ Below w.heap.size w w' := by
  obtain ⟨h0, h1⟩ := hn
  go_enter Try.func10, Try.ntmps10
  go_wp2_with fail
  refine (speaks10 _).mono ?_
  rintro e w1 ⟨rfl, hc⟩
  go_wp2_with fail
  refine (of_law10 n _ h0 h1).mono ?_
  rintro e w2 ⟨vl, rfl, hol, hc2⟩
  rw [levels_listR] at hol
  generalize bitAt n = r at hol
  have hlenl := listR_len r
  have hil := Lib.hid hol.ints
  replace hc := hc.seq hc2
  have hg2 := hc.size
  clear hol hc2
  obtain ⟨hz, hcz, hsz⟩ := one_new w2 (arrOf 12 fun _ => .bool false) 44
  have hb := hz.row (rowArr r)
  have hch : Ch nob w2 ((w2.alloc (.cells (arrOf 12 fun _ => .bool false) 44)).setRow w2.heap.size (rowArr r)) := hcz.setRow _ _ (fun h => by omega)
  have hil2 := Lib.hid (hil.out.keep hch)
  replace hc := hc.seq hch
  clear hil hcz hsz hch
  go_wp2_with (first | (refine wpList_store_row rfl 44 (.tmp 3) (.tmp 18) rfl w2.heap.size (rowArr r) rfl rfl 44 _ hz (by rw [rowArr, arrOf_size]; kernel_rfl) (by rw [arrOf_size, rowArr, arrOf_size]) (arrOf_cells _ _ fun _ _ => rfl) ?_) | (refine wpList_load_row rfl 44 (.tmp 3) rfl w2.heap.size rfl 44 (rowArr r) (0, 0) _ hb rfl rfl (by rw [rowArr, arrOf_size]; kernel_rfl) ?_))
  generalize (w2.alloc _).setRow _ _ = w3 at hb hil2 hc ⊢
  clear hz
  refine (strongest_row r _).mono ?_
  rintro e w4 ⟨vs, rfl, hos, hc4⟩
  have hb4 := hb.ch hc4 (fun h => h)
  have hil4 := Lib.hid (hil2.out.keep hc4)
  have hc5 := hc.seq hc4
  have his := Lib.hid hos.ints
  clear hb hil2 hc hc4 hos
  obtain ⟨As, cs, rfl⟩ := his.out.shape
  have hsl : (strongR r).length ≤ 12 := strongTo_le r 12
  go_wp2_with fail
  have ho0 : Own w4 w4.heap.size 3 (.slice none 0 0) ((strongR r).take 0) := OwnK.nil _ _ _ _
  have hg4 := hc5.size
  go_loopw [5, 23] (fun o q wr => ∃ k : Nat, q = .int .i64 k ∧ k ≤ (strongR r).length ∧ Own wr w4.heap.size 3 o ((strongR r).take k) ∧ Ch nob w4 wr) (fun _ q _ => (strongR r).length - (intOf q).toNat)
  case atStart => exact ⟨0, rfl, by omega, ho0, Ch.refl _ _⟩
  case round =>
    clear ho0
    obtain ⟨k, rfl, hk, ho, hcr⟩ := hrel
    by_cases hlt : k < (strongR r).length
    · obtain ⟨_, _, hcells⟩ := (his.out.keep hcr).at
      obtain ⟨ad, rfl, hx⟩ := hcells k hlt
      have HT := Lib.hid (take_snoc (strongR r) k hlt)
      clear hcells
      generalize (strongR r).getD k 0 = z at hx HT
      have hof := Lib.hid (ho.alloc (.cells #[.int .i64 z] 3))
      have hc2 := Lib.hid (hcr.alloc (.cells #[.int .i64 z] 3))
      have hnb := Lib.hid (Blk.new wr #[.int .i64 z] 3)
      have hge := hc2.out.size
      have hle : ((strongR r).take k).length ≤ 12 := Nat.le_trans (List.length_take_le _ _) (by omega)
      clear ho hcr
      go_wp2_with (at_builtin; refine wpList_append_int rfl (.tmp 27) (.tmp 29) 48 3 rfl .i64 8 elem_int (by decide) w4.heap.size u5 _ rfl hof.out wr.heap.size z 3 rfl hnb.out (by omega) (by omega) ?_; intro v' w' hown hg; have hc4 := hc2.out.grown_own hg (fun b hb => (hof.out.ge b hb).1); have hown2 : Own w' w4.heap.size 3 v' ((strongR r).take (k + 1)) := (by rw [HT.out]; exact hown); clear hown hg)
      go_roundw
      case rel => exact ⟨k + 1, by go_num, by omega, hown2, hc4⟩
      case measure => simp [intOf]; omega
    · have hti := Lib.hid (show Ints wr u5 (strongR r) from by rw [List.take_of_length_le (by omega)] at ho; exact ho.ints)
      have hbr := hb4.ch hcr (fun h => h)
      have hilr := Lib.hid (hil4.out.keep hcr)
      have hcc := hc5.seq hcr
      have HCL := Lib.hid (closed_rows r)
      have HST := Lib.hid (strong_rows r)
      clear ho hb4 his hil4 hc5 hcr
      go_wp2_with (refine wpList_load_row rfl 44 (.tmp 3) rfl w2.heap.size rfl 44 (rowArr r) (0, 0) _ hbr rfl rfl (by rw [rowArr, arrOf_size]; kernel_rfl) ?_)
      refine (closed_row r _).mono ?_
      rintro e w5 ⟨rfl, hc6⟩
      have hb5 := hbr.ch hc6 (fun h => h)
      have hil5 := Lib.hid (hilr.out.keep hc6)
      have hti5 := Lib.hid (hti.out.keep hc6)
      have hcc5 := hcc.seq hc6
      clear hbr hilr hti hcc hc6
      go_wp2_with fail
      refine (closed_ref10 _ (listR r) _ hil5.out).mono ?_
      rintro e w6 ⟨rfl, rfl⟩
      have hcq : (closedF r != refClosed (listR r)) = false := by rw [HCL.out]; simp
      go_wp2_with fail
      refine (strongest_ref _ (listR r) _ hil5.out (by omega)).mono ?_
      rintro e w6 ⟨vt, rfl, hot, hc6⟩
      have hb6 := hb5.ch hc6 (fun h => h)
      have hil6 := Lib.hid (hil5.out.keep hc6)
      have hti6 := Lib.hid (hti5.out.keep hc6)
      have hcc6 := hcc5.seq hc6
      have hot6 := Lib.hid hot.ints
      clear hb5 hil5 hti5 hcc5 hc6 hot
      go_wp2_with fail
      refine (same_ref _ _ (strongR r) (strongL (listR r)) _ hti6.out hot6.out).mono ?_
      rintro e w7 ⟨rfl, hd7⟩
      have hsm : decide (strongR r = strongL (listR r)) = true := decide_eq_true HST.out
      have hb7 := hb6.ch hd7.ch (fun h => h)
      have hil7 := Lib.hid (hil6.out.keep hd7.ch)
      have hcc7 := hcc6.seq hd7.ch
      clear hb6 hil6 hti6 hot6 hcc6 hd7
      go_wp2_with (refine wpList_load_row rfl 44 (.tmp 3) rfl w2.heap.size rfl 44 (rowArr r) (0, 0) _ hb7 rfl rfl (by rw [rowArr, arrOf_size]; kernel_rfl) ?_)
      refine (strongest_row r _).mono ?_
      rintro e w8 ⟨vu, rfl, hou, hc8⟩
      have hb8 := hb7.ch hc8 (fun h => h)
      have hil8 := Lib.hid (hil7.out.keep hc8)
      have hcc8 := hcc7.seq hc8
      have hui := Lib.hid hou.ints
      clear hb7 hil7 hcc7 hc8 hou
      go_wp2_with fail
      refine (below_table _ (strongR r) _ hui.out).mono ?_
      rintro e w9 ⟨rfl, hc9⟩
      have hb9 := hb8.ch hc9 (fun h => h)
      have hil9 := Lib.hid (hil8.out.keep hc9)
      have hcc9 := hcc8.seq hc9
      clear hb8 hil8 hcc8 hc9 hui
      have hlt9 := hb9.lt
      obtain ⟨hz, hcz, hsz⟩ := one_new w9 (arrOf 12 fun _ => .bool false) 44
      have hzb := hz.row (rowArr (belowF (strongR r)))
      have hch : Ch nob w9 ((w9.alloc (.cells (arrOf 12 fun _ => .bool false) 44)).setRow w9.heap.size (rowArr (belowF (strongR r)))) := hcz.setRow _ _ (fun h => by omega)
      have hb10 := hb9.ch hch (fun h => h)
      have hil10 := Lib.hid (hil9.out.keep hch)
      have hcc10 := hcc9.seq hch
      clear hb9 hil9 hcc9 hcz hsz hch
      go_wp2_with (refine wpList_store_row rfl 44 (.tmp 8) (.tmp 46) rfl w9.heap.size (rowArr (belowF (strongR r))) rfl rfl 44 _ hz (by rw [rowArr, arrOf_size]; kernel_rfl) (by rw [arrOf_size, rowArr, arrOf_size]) (arrOf_cells _ _ fun _ _ => rfl) ?_)
      generalize (w9.alloc _).setRow _ _ = w10 at hzb hb10 hil10 hcc10 ⊢
      clear hz
      obtain ⟨Al, cl, rfl⟩ := hil10.out.shape
      go_loopw [47] (fun q wr => ∃ b : Nat, q = .int .i64 b ∧ b ≤ 12 ∧ wr = w10) (fun q _ => 12 - (intOf q).toNat)
      case atStart => exact ⟨0, rfl, by omega, rfl⟩
      case round =>
        obtain ⟨b, rfl, hb, rfl⟩ := hrel
        by_cases hltb : b < 12
        · have hd : decide ((b : Int) < 12) = true := decide_eq_true (by omega)
          have hxb := hzb.cellOf b hltb
          have HBR := Lib.hid (below_rows r b hltb)
          have HIA := Lib.hid (impTo_all (listR r) b)
          go_wp2_with fail
          obtain ⟨wo, rfl⟩ : ∃ wo : World, wo = wr := ⟨_, rfl⟩
          go_loopw [10, 52] (fun x q wr => ∃ a : Nat, q = .int .i64 a ∧ a ≤ (listR r).length ∧ x = .bool (impTo (listR r) b a) ∧ wr = wo) (fun _ q _ => (listR r).length - (intOf q).toNat)
          case atStart => exact ⟨0, rfl, by omega, rfl, rfl⟩
          case round =>
            obtain ⟨a, rfl, ha, rfl, rfl⟩ := hrel
            by_cases hlta : a < (listR r).length
            · obtain ⟨_, _, hcells⟩ := hil10.out.at
              obtain ⟨ad, rfl, hx⟩ := hcells a hlta
              clear hcells
              have HI := Lib.hid (impTo_succ (listR r) b a hlta)
              generalize (listR r).getD a 0 = z at hx HI
              cases hi : impTo (listR r) b a
              · go_wp2_with fail
                refine (implies_ref _ _ _).mono ?_
                rintro e w11 ⟨rfl, rfl⟩
                have hi2 := Lib.hid (show impTo (listR r) b (a + 1) = impl z b from by rw [HI.out, hi]; rfl)
                clear hi
                go_wp2_with fail
                go_roundw
                case rel => exact ⟨a + 1, by go_num, by omega, by rw [hi2.out], trivial⟩
                case measure => simp [intOf]; omega
              · have hi2 := Lib.hid (show impTo (listR r) b (a + 1) = true from by rw [HI.out, hi]; rfl)
                clear hi
                go_wp2_with fail
                go_roundw
                case rel => exact ⟨a + 1, by go_num, by omega, by rw [hi2.out], trivial⟩
                case measure => simp [intOf]; omega
            · obtain rfl : a = (listR r).length := by omega
              rw [HIA.out, ← HBR.out]
              have hqq : (belowF (strongR r) b != belowF (strongR r) b) = false := by simp
              go_wp2_with fail
              go_roundw
              case rel => exact ⟨b + 1, by go_num, by omega, trivial⟩
              case measure => simp [intOf]; omega
        · obtain rfl : b = 12 := by omega
          have HBC := Lib.hid (below_closed r)
          go_wp2_with (refine wpList_load_row rfl 44 (.tmp 3) rfl w2.heap.size rfl 44 (rowArr r) (0, 0) _ hb10 rfl rfl (by rw [rowArr, arrOf_size]; kernel_rfl) ?_)
          refine (closed_row r _).mono ?_
          rintro e w11 ⟨rfl, hc11⟩
          have hb11 := hb10.ch hc11 (fun h => h)
          have hz11 := hzb.ch hc11 (fun h => h)
          have hcc11 := hcc10.seq hc11
          cases hcl : closedF r
          · go_wp2_with fail
            go_ret
            exact ⟨rfl, hcc11.below⟩
          · have hrr : rowArr (belowF (strongR r)) = rowArr r := rowArr_ext (HBC.out hcl)
            rw [hrr] at hz11
            have heq := fun w => eql_row r r w
            simp only [BEq.rfl] at heq
            go_wp2_with (first | (refine wpList_load_rowG rfl 44 (.tmp 8) rfl w9.heap.size rfl 44 (rowArr r) (0, 0) _ hz11 rfl rfl (by rw [rowArr, arrOf_size]; kernel_rfl) ?_) | (refine wpList_load_rowG rfl 44 (.tmp 3) rfl w2.heap.size rfl 44 (rowArr r) (0, 0) _ hb11 rfl rfl (by rw [rowArr, arrOf_size]; kernel_rfl) ?_))
            go_ret
            exact ⟨ret_bool (by simp), hcc11.below⟩
end Go.Proofs.Ytkpkdacifbolkaa
