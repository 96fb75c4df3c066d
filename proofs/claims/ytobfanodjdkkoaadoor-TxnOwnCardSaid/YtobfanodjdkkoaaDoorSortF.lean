/- The library's merge of two stretches of operations by their keys: the walk, when the second is of one. No condition but each theorem's own. -/
import Derived.Test.YtobfanodjdkkoaaDoorSortE
set_option linter.unusedVariables false
set_option linter.unusedSimpArgs false
namespace Go.Proofs.YtobfanodjdkkoaaDoor
open Go.RowKit

set_option maxRecDepth 100000 in
set_option maxHeartbeats 4000000 in
theorem merge_last (g N : Nat) (D : Nat → Opn) (R : Nat → Value) (n cap a m : Nat) (w : World) (hd : OpBlk w g N D R n 33) (hab : a + 1 < m) (hbn : m + 1 ≤ n) (hn : n ≤ 1000000) (hs : SortedOn D a m) :
    Calls Tryd.prog 37 #[.slice (some ⟨g, 0, none⟩) n cap, .int .i64 a, .int .i64 m, .int .i64 (m + 1 : Nat), byKeyV] w (RetMerge g N D R n a (m + 1) w) := by
  have HD := Lib.hid hd
  have HS := Lib.hid hs
  have hcr := Ch.refl (· = g) w
  obtain ⟨b, hb0⟩ : ∃ b, m + 1 = b := ⟨_, rfl⟩
  have HM := Lib.hid hb0
  rw [hb0]
  obtain ⟨d, hd0⟩ : ∃ d : Int, (m : Int) - (a : Int) = d := ⟨_, rfl⟩
  have hsub0 : (d == 1) = false := by simp; omega
  have hsub : (b : Int) - (m : Int) = 1 := by omega
  have hmn : m < n := by omega
  clear hd hs hb0
  go_enter Tryd.func37, Tryd.ntmps37
  go_wp2_with fail
  clear hsub hsub0 hd0
  have ham : a ≤ m := by omega
  go_loopw [14, 15] (fun x y wr => ∃ i j : Nat, x = .int .i64 i ∧ y = .int .i64 j ∧ a ≤ i ∧ i ≤ j ∧ j ≤ m ∧ Hid ((a < i → (D (i - 1)).key ≤ (D m).key) ∧ (j < m → (D m).key ≤ (D j).key)) ∧ Hid (OpBlk wr g N D R n 33) ∧ Ch (· = g) w wr) (fun x y _ => (intOf y).toNat - (intOf x).toNat)
  case atStart => exact ⟨a, m, rfl, rfl, Nat.le_refl _, ham, Nat.le_refl _, Lib.hid ⟨fun h => by omega, fun h => by omega⟩, HD, hcr⟩
  case round =>
    clear HD hcr
    obtain ⟨i, j, rfl, rfl, hmi, hij, hjb, hP, hb, hc⟩ := hrel
    by_cases hlt : i < j
    · have hd1 : decide ((i : Int) < (j : Int)) = true := decide_eq_true (by omega)
      obtain ⟨h, hh⟩ : ∃ h, (i + j) / 2 = h := ⟨_, rfl⟩
      have hh1 : i ≤ h := by omega
      have hh2 : h < j := by omega
      have hhi : ((i : Int) + (j : Int)) / 2 = (h : Int) := by omega
      have hn1 : (h : Int) < (n : Int) := by omega
      have hn2 : (m : Int) < (n : Int) := by omega
      have hn0 : (0 : Int) ≤ (h : Int) := by omega
      have hn3 : (0 : Int) ≤ (m : Int) := by omega
      clear hh
      obtain ⟨x0, x1, x2⟩ := hb.out.at h (by omega)
      obtain ⟨y0, y1, y2⟩ := hb.out.at m (by omega)
      have X0 := fun u : Ext wr => Ext.cell x0 u
      have X1 := fun u : Ext wr => Ext.cell x1 u
      have X2 := fun u : Ext wr => Ext.cell x2 u
      have Y0 := fun u : Ext wr => Ext.cell y0 u
      have Y1 := fun u : Ext wr => Ext.cell y1 u
      have Y2 := fun u : Ext wr => Ext.cell y2 u
      have HK := Lib.hid (fun u : Ext wr => ext_of (by_key (D m) (D h) u.val))
      have CN := Lib.hid (cmpI_neg (D m).key (D h).key)
      by_cases hlt2 : (D m).key < (D h).key
      · have hcm : decide (cmpI (D m).key (D h).key < 0) = true := by rw [decide_eq_true_iff, CN.out]; exact hlt2
        have HP2 : Hid ((a < i → (D (i - 1)).key ≤ (D m).key) ∧ (h < m → (D m).key ≤ (D h).key)) := Lib.hid ⟨hP.out.1, fun _ => by omega⟩
        go_wp2_with fail
        refine wp_region_ch (w0 := wr) (by kernel_rfl) (by kernel_rfl) (Ch.refl _ _) ?_
        repeat (go_big_quiet_step ((go_at_call 26; exact HK.out _)))
        refine wpQuiet_nil ?_
        rintro wq ⟨⟨_, hcq⟩, rfl⟩
        have HB := Lib.hid (hb.out.keep hcq)
        have hcq2 := (hc.seq hcq)
        clear X0 X1 X2 Y0 Y1 Y2 x0 x1 x2 y0 y1 y2 HK hb hc hcq hcm
        go_wp2_with fail
        go_roundw
        case rel => exact ⟨i, h, rfl, rfl, hmi, hh1, by omega, HP2, HB, hcq2⟩
        case measure => simp [intOf]; omega
      · have hcm : decide (cmpI (D m).key (D h).key < 0) = false := by rw [decide_eq_false_iff_not, CN.out]; exact hlt2
        have HP2 : Hid ((a < h + 1 → (D (h + 1 - 1)).key ≤ (D m).key) ∧ (j < m → (D m).key ≤ (D j).key)) := Lib.hid ⟨fun _ => by rw [Nat.add_sub_cancel]; omega, hP.out.2⟩
        go_wp2_with fail
        refine wp_region_ch (w0 := wr) (by kernel_rfl) (by kernel_rfl) (Ch.refl _ _) ?_
        repeat (go_big_quiet_step ((go_at_call 26; exact HK.out _)))
        refine wpQuiet_nil ?_
        rintro wq ⟨⟨_, hcq⟩, rfl⟩
        have HB := Lib.hid (hb.out.keep hcq)
        have hcq2 := (hc.seq hcq)
        clear X0 X1 X2 Y0 Y1 Y2 x0 x1 x2 y0 y1 y2 HK hb hc hcq hcm
        go_wp2_with fail
        go_roundw
        case rel => exact ⟨h + 1, j, by go_num, rfl, by omega, by omega, hjb, HP2, HB, hcq2⟩
        case measure => simp [intOf]; omega
    · obtain rfl : i = j := by omega
      have hd1 : decide ((i : Int) < (i : Int)) = false := by simp
      obtain ⟨wo, rfl⟩ : ∃ wo : World, wo = wr := ⟨_, rfl⟩
      have HSH := Lib.hid (show Shuf a b D (shr D m i) from by
        have := shr_shuf D a m (m - i) (by omega) (by omega)
        rwa [show m - (m - i) = i from by omega, HM.out] at this)
      have HSO := Lib.hid (show SortedOn (shr D m i) a b from by
        have := shr_sorted hmi hjb HS.out hP.out.1 hP.out.2
        rwa [HM.out] at this)
      have HB1 := Lib.hid (show OpBlk wo g N (shr D m m) R n 33 from by rw [shr_zero]; exact hb.out)
      clear hb hP
      go_wp2_with fail
      go_loopw [17] (fun x wr => ∃ k : Nat, x = .int .i64 k ∧ i ≤ k ∧ k ≤ m ∧ Hid (OpBlk wr g N (shr D m k) R n 33) ∧ Ch (· = g) w wr) (fun x _ => (intOf x).toNat)
      case atStart => exact ⟨m, rfl, hjb, Nat.le_refl _, HB1, hc⟩
      case round =>
        clear HB1 hc
        obtain ⟨k, rfl, hak, hkz, hb, hc⟩ := hrel
        by_cases hlt2 : i < k
        · have hd2 : decide ((i : Int) < (k : Int)) = true := decide_eq_true (by omega)
          obtain ⟨q, rfl⟩ : ∃ q, k = q + 1 := ⟨k - 1, by omega⟩
          have HST := Lib.hid (shr_succ D m q hkz)
          obtain ⟨E, hE⟩ : ∃ E, shr D m (q + 1) = E := ⟨_, rfl⟩
          rw [hE] at hb HST
          clear hE
          obtain ⟨x0, x1, x2⟩ := hb.out.at q (by omega)
          obtain ⟨y0, y1, y2⟩ := hb.out.at (q + 1) (by omega)
          have f0 := hb.out.free (q * 3)
          have f1 := hb.out.free (q * 3 + 1)
          have f2 := hb.out.free (q * 3 + 2)
          have k0 := hb.out.free ((q + 1) * 3)
          have k1 := hb.out.free ((q + 1) * 3 + 1)
          have k2 := hb.out.free ((q + 1) * 3 + 2)
          have hb3 := ((hb.out.put (q + 1) (by omega) (E q)).put q (by omega) (E (q + 1))).drew
          have hb4 : Hid (OpBlk (putOp (putOp wr g (q + 1) (E q)) g q (E (q + 1))).drew g N (shr D m q) R n 33) := Lib.hid (by rw [← HST.out]; exact hb3)
          have hc4 : Ch (· = g) w (putOp (putOp wr g (q + 1) (E q)) g q (E (q + 1))).drew := ((hc.seqS (putOp_ch _ _ _ _)).seqS (putOp_ch _ _ _ _)).drew
          simp only [putOp] at hb4 hc4
          obtain ⟨K, hK⟩ : ∃ K : Int, K = ((q + 1 : Nat) : Int) := ⟨_, rfl⟩
          have hKq : K - 1 = (q : Int) := by omega
          rw [← hK] at hd2 ⊢
          have hq1 : K < (n : Int) := by omega
          have hq2 : (q : Int) < (n : Int) := by omega
          have hq3 : (0 : Int) ≤ (q : Int) := by omega
          have hq4 : (0 : Int) ≤ K := by omega
          have hw1 : IntKind.i64.wrap (K - 1) = (q : Int) := by rw [hKq]; exact IntWalk.i64_in _ (by omega)
          have ht1 : K.toNat = q + 1 := by omega
          have hK2 := Lib.hid hK
          clear hb3 hb hc HST hK hKq
          go_wp2_with fail
          go_region_with fail
          all_goals
            clear x0 x1 x2 y0 y1 y2 f0 f1 f2 k0 k1 k2 ht1 hw1
            go_wp2_with fail
            go_roundw
            case rel => exact ⟨q, by have := hK2.out; go_num, by omega, by omega, hb4, hc4⟩
            case measure => have := hK2.out; simp [intOf]; omega
        · obtain rfl : i = k := by omega
          have hd2 : decide ((i : Int) < (i : Int)) = false := by simp
          go_wp2_with fail
          go_end0
          exact ⟨_, rfl, hb.out, HSH.out, HSO.out, hc⟩
end Go.Proofs.YtobfanodjdkkoaaDoor
