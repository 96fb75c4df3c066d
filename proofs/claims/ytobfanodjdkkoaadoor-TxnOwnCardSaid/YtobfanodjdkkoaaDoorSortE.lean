/- The library's merge of two stretches of operations by their keys: the walk. No condition but each theorem's own. -/
import Derived.Test.YtobfanodjdkkoaaDoorSortD
set_option linter.unusedVariables false
set_option linter.unusedSimpArgs false
namespace Go.Proofs.YtobfanodjdkkoaaDoor
open Go.RowKit

/-- What the merge leaves. -/
def RetMerge (g N : Nat) (D : Nat → Opn) (R : Nat → Value) (n a b : Nat) (w : World) (e : Ending) (w' : World) : Prop := ∃ D', e = .returned (.tuple #[]) ∧ OpBlk w' g N D' R n 33 ∧ Shuf a b D D' ∧ SortedOn D' a b ∧ Ch (· = g) w w'
set_option maxRecDepth 100000 in
set_option maxHeartbeats 4000000 in
theorem merge_one (g N : Nat) (D : Nat → Opn) (R : Nat → Value) (n cap a b : Nat) (w : World) (hd : OpBlk w g N D R n 33) (hab : a + 1 < b) (hbn : b ≤ n) (hn : n ≤ 1000000) (hs : SortedOn D (a + 1) b) :
    Calls Tryd.prog 37 #[.slice (some ⟨g, 0, none⟩) n cap, .int .i64 a, .int .i64 (a + 1 : Nat), .int .i64 b, byKeyV] w (RetMerge g N D R n a b w) := by
  have HD := Lib.hid hd
  have HS := Lib.hid hs
  have hcr := Ch.refl (· = g) w
  obtain ⟨m, hm⟩ : ∃ m, a + 1 = m := ⟨_, rfl⟩
  have HM := Lib.hid hm
  rw [hm]
  have hsub : (m : Int) - (a : Int) = 1 := by omega
  clear hd hs hm
  go_enter Tryd.func37, Tryd.ntmps37
  go_wp2_with fail
  clear hsub
  have hma := HM.out
  have hmb : m ≤ b := by omega
  clear hma
  go_loopw [10, 11] (fun x y wr => ∃ i j : Nat, x = .int .i64 i ∧ y = .int .i64 j ∧ m ≤ i ∧ i ≤ j ∧ j ≤ b ∧ Hid ((m < i → (D (i - 1)).key ≤ (D a).key) ∧ (j < b → (D a).key ≤ (D j).key)) ∧ Hid (OpBlk wr g N D R n 33) ∧ Ch (· = g) w wr) (fun x y _ => (intOf y).toNat - (intOf x).toNat)
  case atStart => exact ⟨m, b, rfl, rfl, Nat.le_refl _, hmb, Nat.le_refl _, Lib.hid ⟨fun h => by omega, fun h => by omega⟩, HD, hcr⟩
  case round =>
    clear HD hcr
    obtain ⟨i, j, rfl, rfl, hmi, hij, hjb, hP, hb, hc⟩ := hrel
    by_cases hlt : i < j
    · have hd1 : decide ((i : Int) < (j : Int)) = true := decide_eq_true (by omega)
      obtain ⟨h, hh⟩ : ∃ h, (i + j) / 2 = h := ⟨_, rfl⟩
      have hh1 : i ≤ h := by omega
      have hh2 : h < j := by omega
      have hhi : ((i : Int) + (j : Int)) / 2 = (h : Int) := by omega
      have hn1 : (h : Int) < (n : Int) := by omega
      have hn2 : (a : Int) < (n : Int) := by omega
      have hn0 : (0 : Int) ≤ (h : Int) := by omega
      have hn3 : (0 : Int) ≤ (a : Int) := by omega
      clear hh
      obtain ⟨x0, x1, x2⟩ := hb.out.at h (by omega)
      obtain ⟨y0, y1, y2⟩ := hb.out.at a (by omega)
      have X0 := fun u : Ext wr => Ext.cell x0 u
      have X1 := fun u : Ext wr => Ext.cell x1 u
      have X2 := fun u : Ext wr => Ext.cell x2 u
      have Y0 := fun u : Ext wr => Ext.cell y0 u
      have Y1 := fun u : Ext wr => Ext.cell y1 u
      have Y2 := fun u : Ext wr => Ext.cell y2 u
      have HK := Lib.hid (fun u : Ext wr => ext_of (by_key (D h) (D a) u.val))
      have CN := Lib.hid (cmpI_neg (D h).key (D a).key)
      by_cases hlt2 : (D h).key < (D a).key
      · have hcm : decide (cmpI (D h).key (D a).key < 0) = true := by rw [decide_eq_true_iff, CN.out]; exact hlt2
        have HP2 : Hid ((m < h + 1 → (D (h + 1 - 1)).key ≤ (D a).key) ∧ (j < b → (D a).key ≤ (D j).key)) := Lib.hid ⟨fun _ => by rw [Nat.add_sub_cancel]; omega, hP.out.2⟩
        go_wp2_with fail
        refine wp_region_ch (w0 := wr) (by kernel_rfl) (by kernel_rfl) (Ch.refl _ _) ?_
        repeat (go_big_quiet_step ((go_at_call 26; exact HK.out _)))
        refine wpQuiet_nil ?_
        rintro wq ⟨⟨_, hcq⟩, rfl⟩
        have HB := Lib.hid (hb.out.keep hcq)
        have hcq2 := (hc.seq hcq)
        clear X0 X1 X2 Y0 Y1 Y2 x0 x1 x2 y0 y1 y2 HK hb hc hcq hcm
        go_wp2_with fail
        go_roundw
        case rel => exact ⟨h + 1, j, by go_num, rfl, by omega, by omega, hjb, HP2, HB, hcq2⟩
        case measure => simp [intOf]; omega
      · have hcm : decide (cmpI (D h).key (D a).key < 0) = false := by rw [decide_eq_false_iff_not, CN.out]; exact hlt2
        have HP2 : Hid ((m < i → (D (i - 1)).key ≤ (D a).key) ∧ (h < b → (D a).key ≤ (D h).key)) := Lib.hid ⟨hP.out.1, fun _ => by omega⟩
        go_wp2_with fail
        refine wp_region_ch (w0 := wr) (by kernel_rfl) (by kernel_rfl) (Ch.refl _ _) ?_
        repeat (go_big_quiet_step ((go_at_call 26; exact HK.out _)))
        refine wpQuiet_nil ?_
        rintro wq ⟨⟨_, hcq⟩, rfl⟩
        have HB := Lib.hid (hb.out.keep hcq)
        have hcq2 := (hc.seq hcq)
        clear X0 X1 X2 Y0 Y1 Y2 x0 x1 x2 y0 y1 y2 HK hb hc hcq hcm
        go_wp2_with fail
        go_roundw
        case rel => exact ⟨i, h, rfl, rfl, hmi, hh1, by omega, HP2, HB, hcq2⟩
        case measure => simp [intOf]; omega
    · obtain rfl : i = j := by omega
      have hd1 : decide ((i : Int) < (i : Int)) = false := by simp
      obtain ⟨wo, rfl⟩ : ∃ wo : World, wo = wr := ⟨_, rfl⟩
      have HSH := Lib.hid (show Shuf a b D (shl D a (i - 1)) from by
        have := shl_shuf D a b (i - 1 - a) (by have := HM.out; omega)
        rwa [show a + (i - 1 - a) = i - 1 from by have := HM.out; omega] at this)
      have HSO := Lib.hid (shl_sorted (b := b) (by have := HM.out; omega) hjb HS.out (by rw [HM.out]; exact hP.out.1) hP.out.2)
      have HB1 := Lib.hid (show OpBlk wo g N (shl D a a) R n 33 from by rw [shl_zero]; exact hb.out)
      have hai : a ≤ i - 1 := by have := HM.out; omega
      have hii : (i : Int) - 1 = ((i - 1 : Nat) : Int) := by have := HM.out; omega
      obtain ⟨z, hz⟩ : ∃ z, i - 1 = z := ⟨_, rfl⟩
      rw [hz] at HSH HSO hai hii
      have hzb : z + 1 ≤ b := by have := HM.out; omega
      clear hz hb hP
      go_wp2_with fail
      go_loopw [13] (fun x wr => ∃ k : Nat, x = .int .i64 k ∧ a ≤ k ∧ k ≤ z ∧ Hid (OpBlk wr g N (shl D a k) R n 33) ∧ Ch (· = g) w wr) (fun x _ => z - (intOf x).toNat)
      case atStart => exact ⟨a, rfl, Nat.le_refl _, hai, HB1, hc⟩
      case round =>
        clear HB1 hc
        obtain ⟨k, rfl, hak, hkz, hb, hc⟩ := hrel
        by_cases hlt2 : k < z
        · have hd2 : decide ((k : Int) < (z : Int)) = true := decide_eq_true (by omega)
          have HST := Lib.hid (shl_succ D a k hak)
          obtain ⟨E, hE⟩ : ∃ E, shl D a k = E := ⟨_, rfl⟩
          rw [hE] at hb HST
          clear hE
          obtain ⟨x0, x1, x2⟩ := hb.out.at k (by omega)
          obtain ⟨y0, y1, y2⟩ := hb.out.at (k + 1) (by omega)
          have f0 := hb.out.free (k * 3)
          have f1 := hb.out.free (k * 3 + 1)
          have f2 := hb.out.free (k * 3 + 2)
          have k0 := hb.out.free ((k + 1) * 3)
          have k1 := hb.out.free ((k + 1) * 3 + 1)
          have k2 := hb.out.free ((k + 1) * 3 + 2)
          have hb3 := ((hb.out.put k (by omega) (E (k + 1))).put (k + 1) (by omega) (E k)).drew
          have hb4 : Hid (OpBlk (putOp (putOp wr g k (E (k + 1))) g (k + 1) (E k)).drew g N (shl D a (k + 1)) R n 33) := Lib.hid (by rw [← HST.out]; exact hb3)
          have hc4 : Ch (· = g) w (putOp (putOp wr g k (E (k + 1))) g (k + 1) (E k)).drew := ((hc.seqS (putOp_ch _ _ _ _)).seqS (putOp_ch _ _ _ _)).drew
          simp only [putOp] at hb4 hc4
          have hq1 : (k : Int) + 1 < (n : Int) := by omega
          have hq2 : (k : Int) < (n : Int) := by omega
          have hq3 : (0 : Int) ≤ (k : Int) := by omega
          have hq4 : (0 : Int) ≤ (k : Int) + 1 := by omega
          have hw1 : IntKind.i64.wrap ((k : Int) + 1) = (k : Int) + 1 := IntWalk.i64_in _ (by omega)
          have ht1 : ((k : Int) + 1).toNat = k + 1 := by omega
          clear hb3 hb hc HST
          go_wp2_with fail
          go_region_with fail
          all_goals
            clear x0 x1 x2 y0 y1 y2 f0 f1 f2 k0 k1 k2 hw1 ht1
            go_wp2_with fail
            go_roundw
            case rel => exact ⟨k + 1, by go_num, by omega, by omega, hb4, hc4⟩
            case measure => simp [intOf]; omega
        · obtain rfl : k = z := by omega
          have hd2 : decide ((k : Int) < (k : Int)) = false := by simp
          go_wp2_with fail
          go_end0
          exact ⟨_, rfl, hb.out, HSH.out, HSO.out, hc⟩
end Go.Proofs.YtobfanodjdkkoaaDoor
