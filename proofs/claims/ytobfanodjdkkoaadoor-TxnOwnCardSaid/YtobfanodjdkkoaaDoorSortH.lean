/- The library's stable sort of operations by their keys: blocks of twenty, then merges. No condition but each theorem's own. -/
import Derived.Test.YtobfanodjdkkoaaDoorSortG
set_option linter.unusedVariables false
set_option linter.unusedSimpArgs false
namespace Go.Proofs.YtobfanodjdkkoaaDoor
open Go.RowKit

/-! ### Plain -/
/-- Each block of s is in order. -/
def Blocks (D : Nat → Opn) (n s : Nat) : Prop := ∀ c, s ∣ c → SortedOn D c (min (c + s) n)
/-- Below a each block of s is in order, above it each block of r. -/
def Blocks2 (D : Nat → Opn) (n r s a : Nat) : Prop := (∀ c, s ∣ c → c < a → SortedOn D c (c + s)) ∧ (∀ c, r ∣ c → a ≤ c → SortedOn D c (min (c + r) n)) ∧ s ∣ a
theorem mult_gap {s c a : Nat} (h1 : s ∣ c) (h2 : s ∣ a) (h : c < a) : c + s ≤ a := by
  obtain ⟨u, rfl⟩ := h1
  obtain ⟨v, rfl⟩ := h2
  have : u < v := by
    by_cases e : u < v
    · exact e
    · exact absurd h (Nat.not_lt.mpr (Nat.mul_le_mul_left s (by omega)))
  have := Nat.mul_le_mul_left s (show u + 1 ≤ v from this)
  rw [Nat.mul_add, Nat.mul_one] at this
  exact this
theorem Blocks2.start {D : Nat → Opn} {n r : Nat} (h : Blocks D n r) : Blocks2 D n r (2 * r) 0 := ⟨fun c _ h => by omega, fun c hc _ => h c hc, Nat.dvd_zero _⟩
theorem Blocks2.fresh (D : Nat → Opn) (n : Nat) : Blocks2 D n 1 20 0 := ⟨fun c _ h => by omega, fun c _ _ i j h1 h2 h3 => by omega, Nat.dvd_zero _⟩
theorem Blocks2.step {D E : Nat → Opn} {n r s a : Nat} (h : Blocks2 D n r s a) (hs : Shuf a (a + s) D E) (ho : SortedOn E a (a + s)) : Blocks2 E n r s (a + s) := by
  obtain ⟨h1, h2, h3⟩ := h
  refine ⟨fun c hc hl => ?_, fun c hc hl => ?_, (Nat.dvd_add_right h3).mpr (Nat.dvd_refl s)⟩
  · by_cases e : c = a
    · subst e; exact ho
    · have hlt : c < a := by
        by_cases g : c < a
        · exact g
        · have := mult_gap h3 hc (show a < c by omega)
          omega
      have := mult_gap hc h3 hlt
      intro i j k1 k2 k3
      rw [hs.out i (by omega), hs.out j (by omega)]
      exact h1 c hc hlt i j k1 k2 k3
  · intro i j k1 k2 k3
    rw [hs.out i (by omega), hs.out j (by omega)]
    exact h2 c hc (by omega) i j k1 k2 k3
theorem Blocks2.done {D E : Nat → Opn} {n r s a : Nat} (h : Blocks2 D n r s a) (ha : a ≤ n) (hn : n < a + s) (hs : Shuf a n D E) (ho : SortedOn E a n) : Blocks E n s := by
  obtain ⟨h1, h2, h3⟩ := h
  intro c hc i j k1 k2 k3
  by_cases e : c = a
  · subst e; exact ho i j k1 k2 (by omega)
  · by_cases g : c < a
    · have := mult_gap hc h3 g
      rw [hs.out i (by omega), hs.out j (by omega)]
      exact h1 c hc g i j k1 k2 (by omega)
    · have := mult_gap h3 hc (show a < c by omega)
      omega
theorem Blocks2.left {D : Nat → Opn} {n r a : Nat} (h : Blocks2 D n r (2 * r) a) : SortedOn D a (min (a + r) n) :=
  h.2.1 a (Nat.dvd_trans ⟨2, by omega⟩ h.2.2) (Nat.le_refl _)
theorem Blocks2.right {D : Nat → Opn} {n r a : Nat} (h : Blocks2 D n r (2 * r) a) : SortedOn D (a + r) (min (a + r + r) n) :=
  h.2.1 (a + r) ((Nat.dvd_add_right (Nat.dvd_trans ⟨2, by omega⟩ h.2.2)).mpr (Nat.dvd_refl r)) (by omega)
/-- What the sort leaves. -/
def RetSort (g N : Nat) (D : Nat → Opn) (R : Nat → Value) (n : Nat) (w : World) (e : Ending) (w' : World) : Prop := ∃ D', e = .returned (.tuple #[]) ∧ OpBlk w' g N D' R n 33 ∧ Shuf 0 n D D' ∧ SortedOn D' 0 n ∧ Ch (· = g) w w'

set_option maxRecDepth 100000 in
set_option maxHeartbeats 4000000 in
theorem stable_sort (g N : Nat) (D : Nat → Opn) (R : Nat → Value) (n cap : Nat) (w : World) (hd : OpBlk w g N D R n 33) (hn : n ≤ 1000000) :
    Calls Tryd.prog 32 #[.slice (some ⟨g, 0, none⟩) n cap, .int .i64 n, byKeyV] w (RetSort g N D R n w) := by
  have HD := Lib.hid hd
  have hcr := Ch.refl (· = g) w
  have HN := Lib.hid hn
  clear hd
  go_enter Tryd.func32, Tryd.ntmps32
  go_wp2_with fail
  go_loopw [7, 8] (fun x y wr => ∃ (a : Nat) (E : Nat → Opn), x = .int .i64 a ∧ y = .int .i64 (a + 20 : Nat) ∧ a ≤ n ∧ Hid (Blocks2 E n 1 20 a) ∧ Hid (Shuf 0 n D E) ∧ Hid (OpBlk wr g N E R n 33) ∧ Ch (· = g) w wr) (fun x _ _ => n - (intOf x).toNat)
  case atStart => exact ⟨0, D, rfl, rfl, by omega, Lib.hid (Blocks2.fresh D n), Lib.hid (Shuf.refl _ _ _), HD, hcr⟩
  case round =>
    clear HD hcr
    obtain ⟨a, E, rfl, rfl, han, hB, hS, hb, hc⟩ := hrel
    obtain ⟨b, hab⟩ : ∃ b, a + 20 = b := ⟨_, rfl⟩
    have HAB := Lib.hid hab
    rw [hab]
    by_cases hlt : b ≤ n
    · have hd1 : decide ((b : Int) ≤ (n : Int)) = true := decide_eq_true (by omega)
      have hlt0 : a ≤ b := by omega
      clear hab
      go_wp2_with fail
      refine (insertion_sort g N E R n cap a b _ hb.out hlt0 hlt hn).mono ?_
      rintro e w2 ⟨F, rfl, hb2, hs2, ho2, hc2⟩
      have HB := Lib.hid hb2
      have HS := Lib.hid (hS.out.trans (hs2.mono (Nat.zero_le _) hlt))
      have hB2 := Lib.hid (show Blocks2 F n 1 20 b from by
        rw [← HAB.out] at hs2 ho2 ⊢
        exact hB.out.step hs2 ho2)
      have hc3 := hc.seqS hc2
      have hbn : (b : Int) ≤ 1000000 := by omega
      clear hb hc hS hB hb2 hs2 ho2 hc2 hd1
      go_wp2_with fail
      go_roundw
      case rel => exact ⟨b, F, rfl, by go_num, hlt, hB2, HS, HB, hc3⟩
      case measure => have := HAB.out; simp [intOf]; omega
    · have hd1 : decide ((b : Int) ≤ (n : Int)) = false := decide_eq_false (by omega)
      clear hab
      go_wp2_with fail
      refine (insertion_sort g N E R n cap a n _ hb.out han (Nat.le_refl _) hn).mono ?_
      rintro e w2 ⟨F, rfl, hb2, hs2, ho2, hc2⟩
      have HB := Lib.hid hb2
      have HS := Lib.hid (hS.out.trans (hs2.mono (Nat.zero_le _) (Nat.le_refl _)))
      have hB2 := Lib.hid (show Blocks F n 20 from hB.out.done han (by have := HAB.out; omega) hs2 ho2)
      have hc3 := hc.seqS hc2
      clear hb hc hS hB hb2 hs2 ho2 hc2 hd1 hlt han
      go_wp2_with fail
      obtain ⟨wo, hwo⟩ : ∃ wo : World, w2 = wo := ⟨_, rfl⟩
      rw [hwo] at HB hc3 ⊢
      clear hwo
      go_loopw [6] (fun x wr => ∃ (r : Nat) (E : Nat → Opn), x = .int .i64 r ∧ 1 ≤ r ∧ r ≤ 2000000 ∧ Hid (Blocks E n r) ∧ Hid (Shuf 0 n D E) ∧ Hid (OpBlk wr g N E R n 33) ∧ Ch (· = g) w wr) (fun x _ => n - (intOf x).toNat)
      case atStart => exact ⟨20, F, rfl, by omega, by omega, hB2, HS, HB, hc3⟩
      case round =>
        clear HB hc3 hB2 HS
        obtain ⟨r, E, rfl, hr1, hr2, hB, hS, hb, hc⟩ := hrel
        by_cases hlt : r < n
        · have hd1 : decide ((r : Int) < (n : Int)) = true := decide_eq_true (by omega)
          obtain ⟨s, hs⟩ : ∃ s, 2 * r = s := ⟨_, rfl⟩
          have HRS := Lib.hid hs
          have hsi : 2 * (r : Int) = (s : Int) := by omega
          have hsi2 : (r : Int) * 2 = (s : Int) := by omega
          have hs2 : s ≤ 2000000 := by omega
          have hB1 := Lib.hid (show Blocks2 E n r s 0 from by rw [← hs]; exact Blocks2.start hB.out)
          clear hs hB
          go_wp2_with fail
          obtain ⟨wo2, hwo⟩ : ∃ wo2 : World, wr = wo2 := ⟨_, rfl⟩
          rw [hwo] at hb hc ⊢
          clear hwo
          go_loopw [7, 8] (fun x y wr => ∃ (a : Nat) (E : Nat → Opn), x = .int .i64 a ∧ y = .int .i64 (a + s : Nat) ∧ a ≤ n ∧ Hid (Blocks2 E n r s a) ∧ Hid (Shuf 0 n D E) ∧ Hid (OpBlk wr g N E R n 33) ∧ Ch (· = g) w wr) (fun x _ _ => n - (intOf x).toNat)
          case atStart => exact ⟨0, E, rfl, by rw [Nat.zero_add], by omega, hB1, hS, hb, hc⟩
          case round =>
            clear hb hc hB1 hS
            obtain ⟨a, E, rfl, rfl, han, hB, hS, hb, hc⟩ := hrel
            obtain ⟨b, hab⟩ : ∃ b, a + s = b := ⟨_, rfl⟩
            obtain ⟨m, ham⟩ : ∃ m, a + r = m := ⟨_, rfl⟩
            have HAB := Lib.hid (show a + s = b ∧ a + r = m ∧ r + r = s from by have := HRS.out; omega)
            have hmi : (a : Int) + (r : Int) = (m : Int) := by omega
            rw [hab]
            clear hab ham
            by_cases hlt2 : b ≤ n
            · have hd2 : decide ((b : Int) ≤ (n : Int)) = true := decide_eq_true (by omega)
              have HL := Lib.hid (show SortedOn E a m from by
                have h := (show Blocks2 E n r (2 * r) a from by rw [HRS.out]; exact hB.out).left
                rwa [show min (a + r) n = m from by have := HAB.out; omega] at h)
              have HR := Lib.hid (show SortedOn E m b from by
                have h := (show Blocks2 E n r (2 * r) a from by rw [HRS.out]; exact hB.out).right
                rwa [show a + r = m from HAB.out.2.1, show min (m + r) n = b from by have := HAB.out; omega] at h)
              go_wp2_with fail
              refine Calls.mono (merge g N R n cap HN.out (b - a) E a m b _ (Nat.le_refl _) hb.out (by have := HAB.out; omega) (by have := HAB.out; omega) hlt2 HL.out HR.out) ?_
              rintro e w3 ⟨F, rfl, hb2, hs2, ho2, hc2⟩
              have HB := Lib.hid hb2
              have HS := Lib.hid (hS.out.trans (hs2.mono (Nat.zero_le _) hlt2))
              have hB2 := Lib.hid (show Blocks2 F n r s b from by
                rw [← HAB.out.1] at hs2 ho2 ⊢
                exact hB.out.step hs2 ho2)
              have hc3 := hc.seqS hc2
              have hbn : (b : Int) + (s : Int) ≤ 4000000 := by omega
              have hbn0 : (0 : Int) ≤ (b : Int) + (s : Int) := by omega
              clear hb hc hS hB hb2 hs2 ho2 hc2 hd2 HL HR hmi
              go_wp2_with fail
              go_roundw
              case rel => exact ⟨b, F, rfl, by go_num, hlt2, hB2, HS, HB, hc3⟩
              case measure => have := HAB.out; simp [intOf]; omega
            · have hd2 : decide ((b : Int) ≤ (n : Int)) = false := decide_eq_false (by omega)
              by_cases hlt3 : m < n
              · have hd3 : decide ((m : Int) < (n : Int)) = true := decide_eq_true (by omega)
                have HL := Lib.hid (show SortedOn E a m from by
                  have h := (show Blocks2 E n r (2 * r) a from by rw [HRS.out]; exact hB.out).left
                  rwa [show min (a + r) n = m from by have := HAB.out; omega] at h)
                have HR := Lib.hid (show SortedOn E m n from by
                  have h := (show Blocks2 E n r (2 * r) a from by rw [HRS.out]; exact hB.out).right
                  rwa [show a + r = m from HAB.out.2.1, show min (m + r) n = n from by have := HAB.out; omega] at h)
                go_wp2_with fail
                refine Calls.mono (merge g N R n cap HN.out (n - a) E a m n _ (Nat.le_refl _) hb.out (by have := HAB.out; omega) hlt3 (Nat.le_refl _) HL.out HR.out) ?_
                rintro e w3 ⟨F, rfl, hb2, hs2, ho2, hc2⟩
                have HB := Lib.hid hb2
                have HS := Lib.hid (hS.out.trans (hs2.mono (Nat.zero_le _) (Nat.le_refl _)))
                have hB2 := Lib.hid (show Blocks F n s from hB.out.done han (by have := HAB.out; omega) hs2 ho2)
                have hc3 := hc.seqS hc2
                clear hb hc hS hB hb2 hs2 ho2 hc2 hd2 HL HR hmi hd3 hd1
                go_wp2_with fail
                go_roundw
                case rel => exact ⟨s, F, by go_num, by have := HRS.out; omega, hs2, hB2, HS, HB, hc3⟩
                case measure => have := HRS.out; simp [intOf]; omega
              · have hd3 : decide ((m : Int) < (n : Int)) = false := decide_eq_false (by omega)
                have hB2 := Lib.hid (show Blocks E n s from hB.out.done han (by have := HAB.out; omega) (Shuf.refl _ _ _) (by
                  have h := (show Blocks2 E n r (2 * r) a from by rw [HRS.out]; exact hB.out).left
                  rwa [show min (a + r) n = n from by have := HAB.out; omega] at h))
                clear hB
                go_wp2_with fail
                go_roundw
                case rel => exact ⟨s, E, by go_num, by have := HRS.out; omega, hs2, hB2, hS, hb, hc⟩
                case measure => have := HRS.out; simp [intOf]; omega
        · have hd1 : decide ((r : Int) < (n : Int)) = false := decide_eq_false (by omega)
          have HO := Lib.hid (show SortedOn E 0 n from by
            have h := hB.out 0 (Nat.dvd_zero _)
            rwa [show min (0 + r) n = n from by omega] at h)
          clear hB
          go_wp2_with fail
          go_end0
          exact ⟨E, rfl, hb.out, hS.out, HO.out, hc⟩
end Go.Proofs.YtobfanodjdkkoaaDoor
