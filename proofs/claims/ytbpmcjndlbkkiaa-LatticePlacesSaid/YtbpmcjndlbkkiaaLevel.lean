/- The functions of package level, and of its reference, come to plain numbers and names. No condition but each theorem's own. -/
import Derived.Test.YtbpmcjndlbkkiaaLevelPure
set_option linter.unusedVariables false
set_option linter.unusedSimpArgs false
namespace Go.Proofs.Ytbpmcjndlbkkiaa
open Go.RowKit

theorem is_level (l : Int) (w : World) : Calls Try.prog 23 #[.int .i64 l] w fun e w' => e = .returned (.bool (isL l)) ∧ w = w' := by
  by_cases h0 : 0 ≤ l
  · by_cases h1 : l < 12
    · have h : isL l = true := decide_eq_true ⟨h0, h1⟩
      go_enter Try.func23, Try.ntmps23
      go_wp2
      go_ret
      first | exact ⟨ret_bool h.symm, rfl⟩ | exact ⟨rfl, rfl⟩
    · have h : isL l = false := decide_eq_false (by omega)
      go_enter Try.func23, Try.ntmps23
      go_wp2
      go_ret
      first | exact ⟨ret_bool h.symm, rfl⟩ | exact ⟨rfl, rfl⟩
  · have h : isL l = false := decide_eq_false (by omega)
    go_enter Try.func23, Try.ntmps23
    go_wp2
    go_ret
    first | exact ⟨ret_bool h.symm, rfl⟩ | exact ⟨rfl, rfl⟩

def asksArr : Array Value := #[.int .i64 0, .int .i64 1, .int .i64 3, .int .i64 9, .int .i64 5, .int .i64 11, .int .i64 13, .int .i64 17, .int .i64 34, .int .i64 36, .int .i64 44, .int .i64 48]
theorem asks_level (w : World) : Calls Try.prog 33 #[] w fun e w' => e = .returned (.agg asksArr) ∧ Ch nob w w' := by
  go_enter Try.func33, Try.ntmps33
  go_wp2
  exact bodyPost_ret (v := .agg asksArr) (by simp [results, Try.results33, go_sem, asksArr]) rfl ⟨rfl, (Ch.refl _ _).alloc _⟩
theorem index_asks (l : Int) (h0 : 0 ≤ l) (h1 : l < 12) (w : World) : (Instr.index 65 (.agg asksArr) (.int .i64 l)).run Try.prog w = .ok (.int .i64 (asksI l)) w := by
  refine run_index_one (e := 3) (len := 12) (by kernel_rfl) w (by kernel_rfl) (by kernel_rfl) _ _ _ _ h0 h1 ?_
  have h : ∀ n : Fin 12, asksArr[n.val]? = some (.int .i64 (asksI (n.val : Int))) := by
    intro ⟨n, hn⟩
    rcases n with _|_|_|_|_|_|_|_|_|_|_|_|n <;> first | rfl | omega
  have h2 := h ⟨l.toNat, by omega⟩
  rw [show ((⟨l.toNat, by omega⟩ : Fin 12).val : Int) = l from by simp; omega] at h2
  exact h2

theorem has_ref (a t : Int) (h0 : 0 ≤ a) (h1 : 1 ≤ t) (hu : a ≤ 9223372036854775807) (w : World) : Calls Try.prog 17 #[.int .i64 a, .int .i64 t] w fun e w' => e = .returned (.bool (hasI a t)) ∧ w = w' := by
  have h2 : 0 ≤ a / t := Int.ediv_nonneg h0 (by omega)
  have h3 : a / t ≤ a := Int.ediv_le_self t h0
  go_enter Try.func17, Try.ntmps17
  go_wp2
  go_ret
  exact ⟨ret_bool (by unfold hasI; rfl), rfl⟩

set_option maxHeartbeats 8000000 in
theorem closed_ref (r : Nat) (w : World) (h : r < 64) : Calls Try.prog 15 #[.int .i64 r] w fun e w' => e = .returned (.int .i64 (cl r)) ∧ w = w' := by
  rw [← clb_cl r h]
  obtain ⟨b1, h1⟩ : ∃ b, hasI r 1 = b := ⟨_, rfl⟩
  obtain ⟨b2, h2⟩ : ∃ b, hasI r 2 = b := ⟨_, rfl⟩
  obtain ⟨b4, h4⟩ : ∃ b, hasI r 4 = b := ⟨_, rfl⟩
  obtain ⟨b8, h8⟩ : ∃ b, hasI r 8 = b := ⟨_, rfl⟩
  obtain ⟨b16, h16⟩ : ∃ b, hasI r 16 = b := ⟨_, rfl⟩
  obtain ⟨b32, h32⟩ : ∃ b, hasI r 32 = b := ⟨_, rfl⟩
  rw [h1, h2, h4, h8, h16, h32]
  cases b16 <;> cases b4 <;> cases b32
  all_goals
    go_enter Try.func15, Try.ntmps15
    go_wp2_with (go_at_call 17; refine (has_ref _ _ (by omega) (by omega) (by omega) _).mono ?_; rintro e w' ⟨rfl, rfl⟩)
    all_goals
      go_ret
      exact ⟨ret_int (by simp [clb, *]), rfl⟩
end Go.Proofs.Ytbpmcjndlbkkiaa
