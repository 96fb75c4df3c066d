/- Relations of numbers below 64: more of what the program's functions come to. No condition but each theorem's own. -/
import Derived.Test.YtbpmcjndlbkkiaaDoorRel
import Derived.StillTailTactics
set_option linter.unusedVariables false
set_option linter.unusedSimpArgs false
namespace Go.Proofs.YtbpmcjndlbkkiaaDoor
open Go.RowKit
attribute [local go_sem ↓] zero_rel

/-- Is each row within the other one's? -/
def withinR (r t : Nat → Nat) : Bool := (List.range 64).all fun i => withinS (r i) (t i)
theorem within_rel (r t : Nat → Nat) (okr : RelOK r) (okt : RelOK t) (w : World) : Calls Tryd.prog 28 #[.agg (relArr r), .agg (relArr t)] w fun e w' => e = .returned (.bool (withinR r t)) ∧ Ch nob w w' := by
  obtain ⟨hr1, ht1, hc1, hs1⟩ := two_new w (relArr r) (relArr t) 27 27
  go_enter Tryd.func28, Tryd.ntmps28
  go_wp2_with (refine wpList_load_row rfl 27 (.tmp 2) rfl w.heap.size rfl 27 (relArr r) (0, 0) _ hr1 rfl rfl (by rw [relArr_size]; kernel_rfl) ?_)
  generalize (w.alloc _).alloc _ = w1 at hr1 ht1 hc1 hs1 ⊢
  have HA := Lib.hid (show withinR r t = (List.range 64).all fun i => withinS (r i) (t i) from rfl)
  go_loop [8] (fun q => ∃ i : Nat, q = .int .i64 i ∧ i ≤ 64 ∧ Hid (∀ j, j < i → withinS (r j) (t j) = true)) (fun q => 64 - (intOf q).toNat)
  case atStart => exact ⟨0, rfl, by omega, Lib.hid (fun j hj => by omega)⟩
  case round =>
    obtain ⟨i, rfl, hi, hn⟩ := hrel
    by_cases hlt : i < 64
    · have hix := index_rel r i hlt
      have hx := ht1.relAt i hlt
      have oi := okr i
      have oj := okt i
      go_wp2_with fail
      refine (within_set (r i) (t i) _ oi oj).mono ?_
      rintro e w3 ⟨rfl, rfl⟩
      cases hh : withinS (r i) (t i)
      · have HF := Lib.hid (show withinR r t = false from by
          rw [HA.out, List.all_eq_false]
          exact ⟨i, by simpa using hlt, by simp [hh]⟩)
        clear hh
        go_wp2_with fail
        go_ret
        exact ⟨ret_bool HF.out.symm, hc1⟩
      · have hn2 : Hid (∀ j, j < i + 1 → withinS (r j) (t j) = true) := Lib.hid (fun j hj => by
          by_cases h : j = i
          · rw [h]; exact hh
          · exact hn.out j (by omega))
        clear hh
        go_wp2_with fail
        go_round
        case rel => exact ⟨i + 1, by go_num, by omega, hn2⟩
        case measure => simp [intOf]; omega
    · have HF := Lib.hid (show withinR r t = true from by
        rw [HA.out, List.all_eq_true]
        intro j hj
        rw [List.mem_range] at hj
        exact hn.out j (by omega))
      go_wp2_with fail
      go_ret
      exact ⟨ret_bool HF.out.symm, hc1⟩

/-- 'Add'. -/
def addR (r : Nat → Nat) (a b : Int) : Nat → Nat := if inS a && inS b then rowSet r a.toNat (withS (r a.toNat) b) else r
theorem addR_ok {r : Nat → Nat} (h : RelOK r) (a b : Int) : RelOK (addR r a b) := by
  unfold addR
  split
  · exact rowSet_ok h _ _ (withS_lt _ _ (h _))
  · exact h
theorem add_rel (r : Nat → Nat) (ok : RelOK r) (g : Nat) (a b : Int) (w : World) (hb : Blk w g (relArr r) 27) :
    Calls Tryd.prog 31 #[.pointer (some ⟨g, 0, none⟩), .int .i64 a, .int .i64 b] w fun e w' => e = .returned (.bool (inS a && inS b)) ∧ Blk w' g (relArr (addR r a b)) 27 ∧ Ch (· = g) w w' := by
  by_cases h : (0 ≤ a ∧ a < 64) ∧ (0 ≤ b ∧ b < 64)
  · obtain ⟨⟨h0, h1⟩, h2, h3⟩ := h
    obtain ⟨n, rfl⟩ := Int.eq_ofNat_of_zero_le h0
    have hx := hb.relAt n (by omega)
    have hf := hb.free n
    have hlt := ok n
    have d1 : decide ((n : Int) < 0) = false := decide_eq_false (by omega)
    have d2 : decide ((64 : Int) ≤ (n : Int)) = false := decide_eq_false (by omega)
    have d3 : decide (b < 0) = false := decide_eq_false (by omega)
    have d4 : decide (64 ≤ b) = false := decide_eq_false (by omega)
    have hin : (inS (n : Int) && inS b) = true := by unfold inS; rw [decide_eq_true (by omega), decide_eq_true (by omega)]; rfl
    have HB := hb.relSet n (withS (r n) b)
    have HE := Lib.hid (show addR r (n : Int) b = rowSet r n (withS (r n) b) from by unfold addR; rw [hin]; rfl)
    rw [← HE.out] at HB
    have hch : Ch (· = g) w (w.setCell ⟨g, n, none⟩ (.int .u64 (withS (r n) b : Nat))) := (Ch.refl _ _).setCell _ _ (fun _ => rfl)
    have HI := Lib.hid hin
    clear hb hin
    go_enter Tryd.func31, Tryd.ntmps31
    go_wp2_with fail
    go_region_with (go_at_call 40; refine (with_set (r n) b _ hlt).mono ?_; rintro e w2 ⟨rfl, rfl⟩)
    all_goals
      go_wp2_with fail
      go_ret
      exact ⟨ret_bool HI.out.symm, HB.drew, hch.drew⟩
  · have hin : (inS a && inS b) = false := by
      unfold inS
      rw [Bool.and_eq_false_iff, decide_eq_false_iff_not, decide_eq_false_iff_not]
      omega
    have HI := Lib.hid hin
    have hb2 : Blk w g (relArr (addR r a b)) 27 := by unfold addR; rw [hin]; exact hb
    clear hb hin ok
    have hways : a < 0 ∨ (0 ≤ a ∧ 64 ≤ a) ∨ (0 ≤ a ∧ a < 64 ∧ b < 0) ∨ (0 ≤ a ∧ a < 64 ∧ 0 ≤ b ∧ 64 ≤ b) := by omega
    clear h
    rcases hways with h | ⟨h1, h2⟩ | ⟨h1, h2, h3⟩ | ⟨h1, h2, h3, h4⟩
    · have d1 : decide (a < 0) = true := decide_eq_true (by omega)
      go_enter Tryd.func31, Tryd.ntmps31
      go_wp2_with fail
      go_ret
      exact ⟨ret_bool HI.out.symm, hb2, Ch.refl _ _⟩
    · have d1 : decide (a < 0) = false := decide_eq_false (by omega)
      have d2 : decide ((64 : Int) ≤ a) = true := decide_eq_true (by omega)
      go_enter Tryd.func31, Tryd.ntmps31
      go_wp2_with fail
      go_ret
      exact ⟨ret_bool HI.out.symm, hb2, Ch.refl _ _⟩
    · have d1 : decide (a < 0) = false := decide_eq_false (by omega)
      have d2 : decide ((64 : Int) ≤ a) = false := decide_eq_false (by omega)
      have d3 : decide (b < 0) = true := decide_eq_true (by omega)
      go_enter Tryd.func31, Tryd.ntmps31
      go_wp2_with fail
      go_ret
      exact ⟨ret_bool HI.out.symm, hb2, Ch.refl _ _⟩
    · have d1 : decide (a < 0) = false := decide_eq_false (by omega)
      have d2 : decide ((64 : Int) ≤ a) = false := decide_eq_false (by omega)
      have d3 : decide (b < 0) = false := decide_eq_false (by omega)
      have d4 : decide (64 ≤ b) = true := decide_eq_true (by omega)
      go_enter Tryd.func31, Tryd.ntmps31
      go_wp2_with fail
      go_ret
      exact ⟨ret_bool HI.out.symm, hb2, Ch.refl _ _⟩
end Go.Proofs.YtbpmcjndlbkkiaaDoor
