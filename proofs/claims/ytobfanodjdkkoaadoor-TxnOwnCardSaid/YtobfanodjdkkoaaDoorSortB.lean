/- The library's rotation of a stretch of operations. No condition but each theorem's own. -/
import Derived.Test.YtobfanodjdkkoaaDoorSortA
set_option linter.unusedVariables false
set_option linter.unusedSimpArgs false
namespace Go.Proofs.YtobfanodjdkkoaaDoor
open Go.RowKit

/-- Two neighbouring stretches, from a to m and from m to b, the other way round. -/
def rotR (D : Nat → Opn) (a m b : Nat) : Nat → Opn := fun k => if a ≤ k ∧ k < b then (if k < a + (b - m) then D (k + (m - a)) else D (k - (b - m))) else D k
theorem rot_left (D : Nat → Opn) (m i j : Nat) (hj : 1 ≤ j) (hij : j < i) (hm : i ≤ m) : rotR (swapR D (m - i) m j) (m - i + j) m (m + j) = rotR D (m - i) m (m + j) := by
  funext k
  unfold rotR swapR
  (repeat' split) <;> first | omega | rfl | (congr 1; omega)
theorem rot_right (D : Nat → Opn) (m i j : Nat) (hi : 1 ≤ i) (hij : i < j) (hm : i ≤ m) : rotR (swapR D (m - i) (m + j - i) i) (m - i) m (m + j - i) = rotR D (m - i) m (m + j) := by
  funext k
  unfold rotR swapR
  (repeat' split) <;> first | omega | rfl | (congr 1; omega)
theorem rot_same (D : Nat → Opn) (m i : Nat) (hm : i ≤ m) : swapR D (m - i) m i = rotR D (m - i) m (m + i) := by
  funext k
  unfold rotR swapR
  (repeat' split) <;> first | omega | rfl | (congr 1; omega)
set_option maxHeartbeats 1000000 in
theorem rotate (g N : Nat) (D : Nat → Opn) (R : Nat → Value) (n cap a m b : Nat) (cmp : Value) (w : World) (hd : OpBlk w g N D R n 33) (ham : a < m) (hmb : m < b) (hbn : b ≤ n) (hn : n ≤ 1000000) :
    Calls Tryd.prog 40 #[.slice (some ⟨g, 0, none⟩) n cap, .int .i64 a, .int .i64 m, .int .i64 b, cmp] w fun e w' => e = .returned (.tuple #[]) ∧ OpBlk w' g N (rotR D a m b) R n 33 ∧ Ch (· = g) w w' := by
  have hi0 : (m : Int) - (a : Int) = ((m - a : Nat) : Int) := by omega
  have hj0 : (b : Int) - (m : Int) = ((b - m : Nat) : Int) := by omega
  have HD := Lib.hid hd
  have HR0 := Lib.hid (show rotR D (m - (m - a)) m (m + (b - m)) = rotR D a m b from by rw [show m - (m - a) = a from by omega, show m + (b - m) = b from by omega])
  have hi1 : 1 ≤ m - a := by omega
  have hj1 : 1 ≤ b - m := by omega
  have hi2 : m - a ≤ m := by omega
  have hj2 : m + (b - m) ≤ n := by omega
  obtain ⟨i0, hie⟩ : ∃ i0, m - a = i0 := ⟨_, rfl⟩
  obtain ⟨j0, hje⟩ : ∃ j0, b - m = j0 := ⟨_, rfl⟩
  rw [hie] at hi0 HR0 hi1 hi2
  rw [hje] at hj0 HR0 hj1 hj2
  clear hie hje hd
  have hcr := Ch.refl (· = g) w
  go_enter Tryd.func40, Tryd.ntmps40
  go_wp2_with fail
  clear hi0 hj0
  go_loopw [10, 11] (fun x y wr => ∃ (i j : Nat) (E : Nat → Opn), x = .int .i64 i ∧ y = .int .i64 j ∧ 1 ≤ i ∧ 1 ≤ j ∧ i ≤ m ∧ m + j ≤ n ∧ Hid (rotR E (m - i) m (m + j) = rotR D a m b) ∧ Hid (OpBlk wr g N E R n 33) ∧ Ch (· = g) w wr) (fun x y _ => (intOf x).toNat + (intOf y).toNat)
  case atStart => exact ⟨i0, j0, D, rfl, rfl, hi1, hj1, hi2, hj2, HR0, HD, hcr⟩
  case round =>
    clear hi1 hj1 hi2 hj2 HR0 HD hcr
    obtain ⟨i, j, E, rfl, rfl, hi, hj, him, hjn, hrot, hb, hc⟩ := hrel
    by_cases he : i = j
    · subst he
      have hq : ((i : Int) != (i : Int)) = false := by simp
      have HS := Lib.hid (rot_same E m i him)
      have hsub : (m : Int) - (i : Int) = ((m - i : Nat) : Int) := by omega
      go_wp2_with fail
      refine (swap_range g N E R n cap (m - i) m i _ _ hb.out (by omega) (by omega) hn).mono ?_
      rintro e w2 ⟨rfl, hb2, hc2⟩
      rw [HS.out, hrot.out] at hb2
      have hc3 := hc.seqS hc2
      clear hsub hb hc hc2 hrot
      go_wp2_with fail
      go_end0
      exact ⟨rfl, hb2, hc3⟩
    · have hq : ((i : Int) != (j : Int)) = true := by simp; omega
      by_cases hlt : j < i
      · have hg : decide ((j : Int) < (i : Int)) = true := decide_eq_true (by omega)
        have HS := Lib.hid (rot_left E m i j hj hlt him)
        have hsub : (m : Int) - (i : Int) = ((m - i : Nat) : Int) := by omega
        go_wp2_with fail
        refine (swap_range g N E R n cap (m - i) m j _ _ hb.out (by omega) (by omega) hn).mono ?_
        rintro e w2 ⟨rfl, hb2, hc2⟩
        have HB := Lib.hid hb2
        have hc3 := hc.seqS hc2
        have HR2 := Lib.hid (show rotR (swapR E (m - i) m j) (m - (i - j)) m (m + j) = rotR D a m b from by
          rw [show m - (i - j) = m - i + j from by omega, HS.out, hrot.out])
        clear hsub hb hc hc2 hrot HS hb2
        have hsub2 : (i : Int) - (j : Int) = ((i - j : Nat) : Int) := by omega
        go_wp2_with fail
        clear hsub2
        go_roundw
        case rel => exact ⟨i - j, j, _, rfl, rfl, by omega, hj, by omega, hjn, HR2, HB, hc3⟩
        case measure => simp [intOf]; omega
      · have hg : decide ((j : Int) < (i : Int)) = false := decide_eq_false (by omega)
        have HS := Lib.hid (rot_right E m i j hi (by omega) him)
        have hsub : (m : Int) - (i : Int) = ((m - i : Nat) : Int) := by omega
        have hsub3 : (m : Int) + (j : Int) - (i : Int) = ((m + j - i : Nat) : Int) := by omega
        go_wp2_with fail
        refine (swap_range g N E R n cap (m - i) (m + j - i) i _ _ hb.out (by omega) (by omega) hn).mono ?_
        rintro e w2 ⟨rfl, hb2, hc2⟩
        have HB := Lib.hid hb2
        have hc3 := hc.seqS hc2
        have HR2 := Lib.hid (show rotR (swapR E (m - i) (m + j - i) i) (m - i) m (m + (j - i)) = rotR D a m b from by
          rw [show m + (j - i) = m + j - i from by omega, HS.out, hrot.out])
        clear hsub hsub3 hb hc hc2 hrot HS hb2
        have hsub2 : (j : Int) - (i : Int) = ((j - i : Nat) : Int) := by omega
        go_wp2_with fail
        clear hsub2
        go_roundw
        case rel => exact ⟨i, j - i, _, rfl, rfl, hi, by omega, him, by omega, HR2, HB, hc3⟩
        case measure => simp [intOf]; omega
end Go.Proofs.YtobfanodjdkkoaaDoor
