/- Which operations may be, by the document. No condition but each theorem's own. -/
import Derived.Test.YtobfanodjdkkoaaHistA
set_option linter.unusedVariables false
set_option linter.unusedSimpArgs false
namespace Go.Proofs.Ytobfanodjdkkoaa
open Go.RowKit Go.Maps

set_option maxHeartbeats 1000000 in
theorem mayOp_ref06 (o : Opn) (w : World) : Calls Try.prog 79 #[.agg #[.bool o.wr, .int .i64 o.key, .int .i64 o.val]] w fun e w' => e = .returned (.bool (opOk o)) ∧ Ch nob w w' := by
  obtain ⟨hb, hc, _⟩ := one_new w #[.bool o.wr, .int .i64 o.key, .int .i64 o.val] 35
  obtain ⟨ow, ok, ov⟩ := o
  have HE := Lib.hid (show opOk ⟨ow, ok, ov⟩ = (decide (0 ≤ ok) && decide (ok < 64) && decide (0 ≤ ov) && decide (ov ≤ 2147483647) && (!ow || decide (0 < ov))) from rfl)
  by_cases h1 : ok < 0
  · have d1 : decide (ok < 0) = true := decide_eq_true h1
    go_enter Try.func79, Try.ntmps79
    go_wp2_with fail
    go_ret
    exact ⟨ret_bool (by rw [HE.out, decide_eq_false (show ¬ 0 ≤ ok by omega)]; rfl), hc⟩
  · have d1 : decide (ok < 0) = false := decide_eq_false h1
    by_cases h2 : (63 : Int) < ok
    · have d2 : decide ((63 : Int) < ok) = true := decide_eq_true h2
      go_enter Try.func79, Try.ntmps79
      go_wp2_with fail
      go_ret
      exact ⟨ret_bool (by rw [HE.out, decide_eq_false (show ¬ ok < 64 by omega)]; simp), hc⟩
    · have d2 : decide ((63 : Int) < ok) = false := decide_eq_false h2
      by_cases h3 : ov < 0
      · have d3 : decide (ov < 0) = true := decide_eq_true h3
        go_enter Try.func79, Try.ntmps79
        go_wp2_with fail
        go_ret
        exact ⟨ret_bool (by rw [HE.out, decide_eq_false (show ¬ 0 ≤ ov by omega)]; simp), hc⟩
      · have d3 : decide (ov < 0) = false := decide_eq_false h3
        by_cases h4 : (2147483647 : Int) < ov
        · have d4 : decide ((2147483647 : Int) < ov) = true := decide_eq_true h4
          go_enter Try.func79, Try.ntmps79
          go_wp2_with fail
          go_ret
          exact ⟨ret_bool (by rw [HE.out, decide_eq_false (show ¬ ov ≤ 2147483647 by omega)]; simp), hc⟩
        · have d4 : decide ((2147483647 : Int) < ov) = false := decide_eq_false h4
          have HF := Lib.hid (show opOk ⟨ow, ok, ov⟩ = (!ow || decide (0 < ov)) from by
            rw [HE.out, decide_eq_true (show 0 ≤ ok by omega), decide_eq_true (show ok < 64 by omega), decide_eq_true (show 0 ≤ ov by omega), decide_eq_true (show ov ≤ 2147483647 by omega)]; rfl)
          cases ow with
          | false =>
            go_enter Try.func79, Try.ntmps79
            go_wp2_with fail
            go_ret
            exact ⟨ret_bool (by rw [HF.out]; rfl), hc⟩
          | true =>
            by_cases h5 : (0 : Int) < ov
            · have d5 : (ov != 0) = true := by simp; omega
              go_enter Try.func79, Try.ntmps79
              go_wp2_with fail
              go_ret
              exact ⟨ret_bool (by rw [HF.out]; simp; omega), hc⟩
            · have d5 : (ov != 0) = false := by rw [show ov = 0 by omega]; rfl
              go_enter Try.func79, Try.ntmps79
              go_wp2_with fail
              go_ret
              exact ⟨ret_bool (by rw [HF.out]; simp; omega), hc⟩
end Go.Proofs.Ytobfanodjdkkoaa
