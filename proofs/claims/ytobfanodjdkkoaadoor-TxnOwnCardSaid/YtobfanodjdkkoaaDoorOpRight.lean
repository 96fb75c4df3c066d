/- Which operations may be, by the program. No condition but each theorem's own. -/
import Derived.Test.YtobfanodjdkkoaaDoorTxnC
set_option linter.unusedVariables false
set_option linter.unusedSimpArgs false
namespace Go.Proofs.YtobfanodjdkkoaaDoor
open Go.RowKit Go.Maps

/-- May it be? -/
def opOk (o : Opn) : Bool := decide (0 ≤ o.key) && decide (o.key < 64) && decide (0 ≤ o.val) && decide (o.val ≤ 2147483647) && (!o.wr || decide (0 < o.val))
set_option maxHeartbeats 1000000 in
theorem right_op (o : Opn) (w : World) : Calls Tryd.prog 24 #[.agg #[.bool o.wr, .int .i64 o.key, .int .i64 o.val]] w fun e w' => e = .returned (.bool (opOk o)) ∧ Ch nob w w' := by
  obtain ⟨hb, hc, _⟩ := one_new w #[.bool o.wr, .int .i64 o.key, .int .i64 o.val] 33
  obtain ⟨ow, ok, ov⟩ := o
  have HE := Lib.hid (show opOk ⟨ow, ok, ov⟩ = (decide (0 ≤ ok) && decide (ok < 64) && decide (0 ≤ ov) && decide (ov ≤ 2147483647) && (!ow || decide (0 < ov))) from rfl)
  by_cases h1 : ok < 0
  · have d1 : decide (ok < 0) = true := decide_eq_true h1
    go_enter Tryd.func24, Tryd.ntmps24
    go_wp2_with fail
    go_ret
    exact ⟨ret_bool (by rw [HE.out, decide_eq_false (show ¬ 0 ≤ ok by omega)]; rfl), hc⟩
  · have d1 : decide (ok < 0) = false := decide_eq_false h1
    by_cases h2 : (64 : Int) ≤ ok
    · have d2 : decide ((64 : Int) ≤ ok) = true := decide_eq_true h2
      go_enter Tryd.func24, Tryd.ntmps24
      go_wp2_with fail
      go_ret
      exact ⟨ret_bool (by rw [HE.out, decide_eq_false (show ¬ ok < 64 by omega)]; simp), hc⟩
    · have d2 : decide ((64 : Int) ≤ ok) = false := decide_eq_false h2
      by_cases h3 : ov < 0
      · have d3 : decide (ov < 0) = true := decide_eq_true h3
        go_enter Tryd.func24, Tryd.ntmps24
        go_wp2_with fail
        go_ret
        exact ⟨ret_bool (by rw [HE.out, decide_eq_false (show ¬ 0 ≤ ov by omega)]; simp), hc⟩
      · have d3 : decide (ov < 0) = false := decide_eq_false h3
        by_cases h4 : (2147483647 : Int) < ov
        · have d4 : decide ((2147483647 : Int) < ov) = true := decide_eq_true h4
          go_enter Tryd.func24, Tryd.ntmps24
          go_wp2_with fail
          go_ret
          exact ⟨ret_bool (by rw [HE.out, decide_eq_false (show ¬ ov ≤ 2147483647 by omega)]; simp), hc⟩
        · have d4 : decide ((2147483647 : Int) < ov) = false := decide_eq_false h4
          have HF := Lib.hid (show opOk ⟨ow, ok, ov⟩ = (!ow || decide (0 < ov)) from by
            rw [HE.out, decide_eq_true (show 0 ≤ ok by omega), decide_eq_true (show ok < 64 by omega), decide_eq_true (show 0 ≤ ov by omega), decide_eq_true (show ov ≤ 2147483647 by omega)]; rfl)
          cases ow with
          | false =>
            go_enter Tryd.func24, Tryd.ntmps24
            go_wp2_with fail
            go_ret
            exact ⟨ret_bool (by rw [HF.out]; rfl), hc⟩
          | true =>
            by_cases h5 : (0 : Int) < ov
            · have d5 : decide ((0 : Int) < ov) = true := decide_eq_true h5
              go_enter Tryd.func24, Tryd.ntmps24
              go_wp2_with fail
              go_ret
              exact ⟨ret_bool (by rw [HF.out, d5]; rfl), hc⟩
            · have d5 : decide ((0 : Int) < ov) = false := decide_eq_false h5
              go_enter Tryd.func24, Tryd.ntmps24
              go_wp2_with fail
              go_ret
              exact ⟨ret_bool (by rw [HF.out, d5]; rfl), hc⟩
end Go.Proofs.YtobfanodjdkkoaaDoor
