/- The library's insertion sort of operations by their keys. No condition but each theorem's own. -/
import Derived.Test.YtobfanodjdkkoaaDoorSortB
set_option linter.unusedVariables false
set_option linter.unusedSimpArgs false
namespace Go.Proofs.YtobfanodjdkkoaaDoor
open Go.RowKit

/-- The comparison that the program hands over. -/
abbrev byKeyV : Value := .func (.func 26) #[] #[]
theorem cmpI_neg (a b : Int) : (cmpI a b < 0) = (a < b) := by
  unfold cmpI
  by_cases h : a < b
  · rw [if_pos h]; simp [h]
  · rw [if_neg h]
    split <;> simp [h]
/-- In order up to i, but for what stands at j, which is below all behind it. -/
def Hole (E : Nat → Opn) (a i j : Nat) : Prop := (∀ p q, a ≤ p → p < q → q ≤ i → p ≠ j → q ≠ j → (E p).key ≤ (E q).key) ∧ ∀ q, j < q → q ≤ i → (E j).key ≤ (E q).key
theorem Hole.start {E : Nat → Opn} {a i : Nat} (h : SortedOn E a i) : Hole E a i i := ⟨fun p q h1 h2 h3 h4 h5 => h p q h1 h2 (by omega), fun q h1 h2 => by omega⟩
theorem Hole.step {E : Nat → Opn} {a i j q : Nat} (h : Hole E a i j) (hj : j ≤ i) (hq : q + 1 = j) (ha : a ≤ q) (hlt : (E j).key < (E q).key) : Hole (swapD E j q) a i q := by
  obtain ⟨h1, h2⟩ := h
  refine ⟨fun p r hp hpr hr hpq hrq => ?_, fun r hr1 hr2 => ?_⟩
  · rw [swapD_get, swapD_get, if_neg hpq, if_neg hrq]
    by_cases e1 : p = j
    · rw [if_pos e1, if_neg (by omega)]
      exact h1 q r ha (by omega) hr (by omega) (by omega)
    · rw [if_neg e1]
      by_cases e2 : r = j
      · rw [if_pos e2]
        exact h1 p q hp (by omega) (by omega) e1 (by omega)
      · rw [if_neg e2]
        exact h1 p r hp hpr hr e1 e2
  · rw [swapD_get, swapD_get, if_pos rfl, if_neg (by omega)]
    by_cases e : r = j
    · rw [if_pos e]; omega
    · rw [if_neg e]
      exact h2 r (by omega) hr2
theorem Hole.stop {E : Nat → Opn} {a i j : Nat} (h : Hole E a i j) (hj : j ≤ i) (hs : ∀ q, q + 1 = j → a ≤ q → (E q).key ≤ (E j).key) : SortedOn E a (i + 1) := by
  obtain ⟨h1, h2⟩ := h
  intro p q hp hpq hq
  by_cases e1 : p = j
  · subst e1; exact h2 q hpq (by omega)
  · by_cases e2 : q = j
    · subst e2
      by_cases e3 : p + 1 = q
      · exact hs p e3 hp
      · have := h1 p (q - 1) hp (by omega) (by omega) e1 (by omega)
        have := hs (q - 1) (by omega) (by omega)
        omega
    · exact h1 p q hp hpq (by omega) e1 e2
set_option maxHeartbeats 2000000 in
theorem insertion_sort (g N : Nat) (D : Nat → Opn) (R : Nat → Value) (n cap a b : Nat) (w : World) (hd : OpBlk w g N D R n 33) (hab : a ≤ b) (hbn : b ≤ n) (hn : n ≤ 1000000) :
    Calls Tryd.prog 36 #[.slice (some ⟨g, 0, none⟩) n cap, .int .i64 a, .int .i64 b, byKeyV] w fun e w' => ∃ D', e = .returned (.tuple #[]) ∧ OpBlk w' g N D' R n 33 ∧ Shuf a b D D' ∧ SortedOn D' a b ∧ Ch (· = g) w w' := by
  have HD := Lib.hid hd
  have hcr := Ch.refl (· = g) w
  clear hd
  go_enter Tryd.func36, Tryd.ntmps36
  go_wp2_with fail
  go_loopw [8] (fun x wr => ∃ (i : Nat) (E : Nat → Opn), x = .int .i64 i ∧ a < i ∧ (i ≤ b ∨ i = a + 1) ∧ Hid (Shuf a b D E) ∧ Hid (SortedOn E a i) ∧ Hid (OpBlk wr g N E R n 33) ∧ Ch (· = g) w wr) (fun x _ => b + 1 - (intOf x).toNat)
  case atStart => exact ⟨a + 1, D, by go_num, by omega, by omega, Lib.hid (Shuf.refl _ _ _), Lib.hid (fun p q h1 h2 h3 => by omega), HD, hcr⟩
  case round =>
    clear HD hcr
    obtain ⟨i, E, rfl, hai, hib, hsh, hso, hb, hc⟩ := hrel
    by_cases hlt : i < b
    · have hd1 : decide ((i : Int) < (b : Int)) = true := decide_eq_true (by omega)
      have HH := Lib.hid (Hole.start hso.out)
      clear hso
      go_wp2_with fail
      go_loopw [9] (fun x wr => ∃ (j : Nat) (F : Nat → Opn), x = .int .i64 j ∧ a ≤ j ∧ j ≤ i ∧ Hid (Shuf a b D F) ∧ Hid (Hole F a i j) ∧ Hid (OpBlk wr g N F R n 33) ∧ Ch (· = g) w wr) (fun x _ => (intOf x).toNat)
      case atStart => exact ⟨i, E, rfl, by omega, Nat.le_refl _, hsh, HH, hb, hc⟩
      case round =>
        clear hsh HH hb hc
        obtain ⟨j, F, rfl, haj, hji, hsh, hho, hb, hc⟩ := hrel
        by_cases hja : a < j
        · have hg1 : decide ((a : Int) < (j : Int)) = true := decide_eq_true (by omega)
          obtain ⟨q, hq⟩ : ∃ q, j = q + 1 := ⟨j - 1, by omega⟩
          obtain ⟨x0, x1, x2⟩ := hb.out.at j (by omega)
          obtain ⟨y0, y1, y2⟩ := hb.out.at q (by omega)
          have X0 := fun u : Ext wr => Ext.cell x0 u
          have X1 := fun u : Ext wr => Ext.cell x1 u
          have X2 := fun u : Ext wr => Ext.cell x2 u
          have Y0 := fun u : Ext wr => Ext.cell y0 u
          have Y1 := fun u : Ext wr => Ext.cell y1 u
          have Y2 := fun u : Ext wr => Ext.cell y2 u
          have HK := Lib.hid (fun u : Ext wr => ext_of (by_key (F j) (F q) u.val))
          have hjn : (j : Int) < (n : Int) := by omega
          have hqn : (q : Int) < (n : Int) := by omega
          have hj0 : (0 : Int) ≤ (j : Int) := by omega
          have hq0 : (0 : Int) ≤ (q : Int) := by omega
          have hw1 : IntKind.i64.wrap ((j : Int) - 1) = (q : Int) := by rw [IntWalk.i64_in _ (by omega)]; omega
          have HQ := Lib.hid hq
          have CN := Lib.hid (cmpI_neg (F j).key (F q).key)
          clear hq
          by_cases hlt2 : (F j).key < (F q).key
          · have hcm : decide (cmpI (F j).key (F q).key < 0) = true := by rw [decide_eq_true_iff, CN.out]; exact hlt2
            have HST := Lib.hid (hho.out.step hji HQ.out.symm (by have := HQ.out; omega) hlt2)
            have HSW := Lib.hid (hsh.out.trans (Shuf.swap F (i := j) (j := q) ⟨by omega, by omega⟩ (by have := HQ.out; omega)))
            have hqj : q < j := by have := HQ.out; omega
            have haq : a ≤ q := by have := HQ.out; omega
            go_wp2_with fail
            refine wp_region_ch (w0 := wr) (by kernel_rfl) (by kernel_rfl) (Ch.refl _ _) ?_
            repeat (go_big_quiet_step ((go_at_call 26; exact HK.out _)))
            refine wpQuiet_nil ?_
            rintro wq ⟨⟨_, hcq⟩, rfl⟩
            have hbq := hb.out.keep hcq
            have hcq2 := (hc.seq hcq)
            clear X0 X1 X2 Y0 Y1 Y2 x0 x1 x2 y0 y1 y2 HK hb hc hcq
            obtain ⟨x0, x1, x2⟩ := hbq.at j (by omega)
            obtain ⟨y0, y1, y2⟩ := hbq.at q (by omega)
            have f0 := hbq.free (j * 3)
            have f1 := hbq.free (j * 3 + 1)
            have f2 := hbq.free (j * 3 + 2)
            have k0 := hbq.free (q * 3)
            have k1 := hbq.free (q * 3 + 1)
            have k2 := hbq.free (q * 3 + 2)
            have hb3 := Lib.hid ((hbq.put j (by omega) (F q)).put q (by omega) (F j)).drew
            have hb4 : Hid (OpBlk (putOp (putOp wq g j (F q)) g q (F j)).drew g N (swapD F j q) R n 33) := hb3
            have hc4 : Ch (· = g) w (putOp (putOp wq g j (F q)) g q (F j)).drew := ((hcq2.seqS (putOp_ch _ _ _ _)).seqS (putOp_ch _ _ _ _)).drew
            simp only [putOp] at hb4 hc4
            clear hb3 hbq hcq2
            go_wp2_with fail
            go_region_with fail
            all_goals
              clear x0 x1 x2 y0 y1 y2 f0 f1 f2 k0 k1 k2 hcm
              go_wp2_with fail
              go_roundw
              case rel => exact ⟨q, _, rfl, haq, by omega, HSW, HST, hb4, hc4⟩
              case measure => simp [intOf]; omega
          · have hcm : decide (cmpI (F j).key (F q).key < 0) = false := by rw [decide_eq_false_iff_not, CN.out]; exact hlt2
            have HSO := Lib.hid (hho.out.stop hji (fun p hp _ => by
              have : p = q := by have := HQ.out; omega
              rw [this]; omega))
            go_wp2_with fail
            refine wp_region_ch (w0 := wr) (by kernel_rfl) (by kernel_rfl) (Ch.refl _ _) ?_
            repeat (go_big_quiet_step ((go_at_call 26; exact HK.out _)))
            refine wpQuiet_nil ?_
            rintro wq ⟨⟨_, hcq⟩, rfl⟩
            have hbq := hb.out.keep hcq
            have hcq2 := (hc.seq hcq)
            clear X0 X1 X2 Y0 Y1 Y2 x0 x1 x2 y0 y1 y2 HK hb hc hcq
            have HB := Lib.hid hbq
            clear hbq hcm
            go_wp2_with fail
            go_roundw
            case rel => exact ⟨i + 1, F, by go_num, by omega, .inl (by omega), hsh, HSO, HB, hcq2⟩
            case measure => simp [intOf]; omega
        · obtain rfl : j = a := by omega
          have hg1 : decide ((j : Int) < (j : Int)) = false := by simp
          have HSO := Lib.hid (hho.out.stop hji (fun p hp h => by omega))
          clear hho hja
          go_wp2_with fail
          refine wp_region_ch (w0 := wr) (by kernel_rfl) (by kernel_rfl) (Ch.refl _ _) ?_
          repeat (go_big_quiet_step (fail))
          refine wpQuiet_nil ?_
          rintro wq ⟨⟨_, hcq⟩, rfl⟩
          have HB := Lib.hid (hb.out.keep hcq)
          have hcq2 := (hc.seq hcq)
          clear hb hc hcq
          go_wp2_with fail
          go_roundw
          case rel => exact ⟨i + 1, F, by go_num, by omega, .inl (by omega), hsh, HSO, HB, hcq2⟩
          case measure => simp [intOf]; omega
    · have hd1 : decide ((i : Int) < (b : Int)) = false := decide_eq_false (by omega)
      have HSO := Lib.hid (show SortedOn E a b from fun p q h1 h2 h3 => hso.out p q h1 h2 (by omega))
      clear hso
      go_wp2_with fail
      go_end0
      exact ⟨E, rfl, hb.out, hsh.out, HSO.out, hc⟩
end Go.Proofs.YtobfanodjdkkoaaDoor
