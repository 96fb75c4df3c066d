/- More functions of package level, and of its reference, come to plain numbers and names. No condition but each theorem's own. -/
import Derived.Test.YtbpmcjndlbkkiaaLevel
set_option linter.unusedVariables false
set_option linter.unusedSimpArgs false
namespace Go.Proofs.Ytbpmcjndlbkkiaa
open Go.RowKit

theorem closed_level (l : Int) (w : World) : Calls Try.prog 28 #[.int .i64 l] w fun e w' => e = .returned (.int .i64 (cl (six l))) ∧ w = w' := by
  go_enter Try.func28, Try.ntmps28
  go_wp2
  all_goals
    go_ret
    exact ⟨ret_int (by rw [← clI_cl]; simp [clI, *]), rfl⟩

theorem asks_ref (l : Int) (w : World) : Calls Try.prog 16 #[.int .i64 l] w fun e w' => e = .returned (.int .i64 (asksI l)) ∧ w = w' := by
  rw [asksI_ite]
  go_enter Try.func16, Try.ntmps16
  go_wp2
  all_goals
    go_ret
    exact ⟨ret_int (by simp [*]), rfl⟩

theorem asks_any (l : Int) (w : World) : Calls Try.prog 27 #[.int .i64 l] w fun e w' => e = .returned (.int .i64 (asksI l)) ∧ Ch nob w w' := by
  by_cases h : 0 ≤ l ∧ l < 12
  · have hl : isL l = true := decide_eq_true h
    obtain ⟨h0, h1⟩ := h
    have hix := fun w => index_asks l h0 h1 w
    go_enter Try.func27, Try.ntmps27
    go_wp2_with fail
    refine (is_level _ _).mono ?_
    rintro e w1 ⟨rfl, rfl⟩
    go_wp2_with fail
    refine (asks_level _).mono ?_
    rintro e w1 ⟨rfl, hc⟩
    go_wp2_with fail
    go_ret
    exact ⟨rfl, hc⟩
  · have hl : isL l = false := decide_eq_false h
    have ho := Lib.hid (asksI_out l h)
    go_enter Try.func27, Try.ntmps27
    go_wp2_with fail
    refine (is_level _ _).mono ?_
    rintro e w1 ⟨rfl, rfl⟩
    go_wp2_with fail
    go_ret
    exact ⟨ret_int (by rw [ho.out]; rfl), Ch.refl _ _⟩

theorem missing_any (a b : Int) (w : World) : Calls Try.prog 24 #[.int .i64 a, .int .i64 b] w fun e w' => e = .returned (.int .i64 (missN a b)) ∧ Ch nob w w' := by
  have hsix := Lib.hid (six_nat (asksI a) (asksI_lt a))
  have hbits := Lib.hid (andNot_small (asksI b) (cl (asksI a)) (asksI_lt b) (cl_lt _))
  go_enter Try.func24, Try.ntmps24
  go_wp2_with fail
  refine (asks_any _ _).mono ?_
  rintro e w1 ⟨rfl, hc⟩
  go_wp2_with fail
  refine (asks_any _ _).mono ?_
  rintro e w2 ⟨rfl, hc2⟩
  go_wp2_with fail
  refine (closed_level _ _).mono ?_
  rintro e w3 ⟨rfl, rfl⟩
  go_wp2_with fail
  go_ret
  exact ⟨ret_int (by rw [hsix.out]; exact hbits.out), hc.seq hc2⟩
end Go.Proofs.Ytbpmcjndlbkkiaa
