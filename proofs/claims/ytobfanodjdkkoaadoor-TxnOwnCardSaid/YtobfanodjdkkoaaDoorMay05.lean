/- Which operations may be, by the law. No condition but each theorem's own. -/
import Derived.Test.YtobfanodjdkkoaaDoorOpRight
set_option linter.unusedVariables false
set_option linter.unusedSimpArgs false
namespace Go.Proofs.YtobfanodjdkkoaaDoor
open Go.RowKit Go.Maps

def mayL (xs : List Opn) : Bool := (List.range xs.length).all fun i => opOk (xs.getD i opZero)
def mayN (xs : List Opn) : Int := if mayL xs then 1 else 0
theorem mayN_yes {xs : List Opn} (h : mayL xs = true) : 1 = mayN xs := by unfold mayN; rw [h]; rfl
theorem mayN_no {xs : List Opn} (h : mayL xs = false) : 0 = mayN xs := by unfold mayN; rw [h]; rfl
theorem may_no {xs : List Opn} {i : Nat} (hi : i < xs.length) (h : opOk (xs.getD i opZero) = false) : mayL xs = false := by
  unfold mayL
  rw [List.all_eq_false]
  exact ⟨i, List.mem_range.2 hi, (by show ¬ opOk (xs.getD i opZero) = true; rw [h]; decide)⟩
theorem may_all {xs : List Opn} (h : ∀ i, i < xs.length → opOk (xs.getD i opZero) = true) : mayL xs = true := by
  unfold mayL
  rw [List.all_eq_true]
  intro i hi
  exact h i (List.mem_range.1 hi)
theorem may_at {xs : List Opn} (h : mayL xs = true) {i : Nat} (hi : i < xs.length) : opOk (xs.getD i opZero) = true := by
  unfold mayL at h
  rw [List.all_eq_true] at h
  exact h i (List.mem_range.2 hi)
set_option maxHeartbeats 2000000 in
theorem may_law05 (w : World) (v : Value) (xs : List Opn) (hv : Opl w v xs) : Calls Tryd.prog 7 #[v] w fun e w' => e = .returned (.int .i64 (mayN xs)) ∧ Ch nob w w' := by
  obtain ⟨A, cp, rfl⟩ := hv.shape
  have HV := Lib.hid hv
  obtain ⟨_, ⟨_, hlen⟩, _⟩ := hv.at
  obtain ⟨n, hn2⟩ : ∃ n, xs.length = n := ⟨_, rfl⟩
  have HN := Lib.hid hn2
  rw [hn2] at HV hlen ⊢
  clear hv hn2
  go_enter Tryd.func7, Tryd.ntmps7
  go_wp2_with fail
  go_loopw [7] (fun x wr => ∃ i : Nat, x = .int .i64 i ∧ i ≤ n ∧ Hid (∀ j, j < i → opOk (xs.getD j opZero) = true) ∧ Ch nob w wr) (fun x _ => n - (intOf x).toNat)
  case atStart => exact ⟨0, rfl, Nat.zero_le _, Lib.hid (fun j hj => by omega), Ch.refl _ _⟩
  case round =>
    obtain ⟨i, rfl, hi, hst, hc⟩ := hrel
    by_cases hlt : i < n
    · have hd : decide ((i : Int) < (n : Int)) = true := decide_eq_true (by omega)
      obtain ⟨ad, rfl, hx0, hx1, hx2⟩ := (HV.out.keep hc).at.2.2 i (by rw [HN.out]; exact hlt)
      obtain ⟨x, hx⟩ : ∃ x, xs.getD i opZero = x := ⟨_, rfl⟩
      rw [hx] at hx0 hx1 hx2
      have HX := Lib.hid hx
      have HI := Lib.hid (show i < xs.length from by rw [HN.out]; exact hlt)
      clear hx
      obtain ⟨ow, ok, ov⟩ := x
      have hc2 : Ch nob w (wr.alloc (.cells #[.bool ow, .int .i64 ok, .int .i64 ov] 33)) := hc.alloc _
      have HE := Lib.hid (show opOk ⟨ow, ok, ov⟩ = (decide (0 ≤ ok) && decide (ok < 64) && decide (0 ≤ ov) && decide (ov ≤ 2147483647) && (!ow || decide (0 < ov))) from rfl)
      have hno : opOk ⟨ow, ok, ov⟩ = false → Hid (mayL xs = false) := fun h => Lib.hid (may_no HI.out (by rw [HX.out]; exact h))
      have HNO := Lib.hid hno
      clear hno hc
      by_cases h1 : ok < 0
      · have d1 : decide (ok < 0) = true := decide_eq_true h1
        have HF := HNO.out (by rw [HE.out, decide_eq_false (show ¬ 0 ≤ ok by omega)]; rfl)
        go_wp2_with fail
        go_ret
        exact ⟨ret_int (mayN_no HF.out), hc2⟩
      · have d1 : decide (ok < 0) = false := decide_eq_false h1
        by_cases h2 : (63 : Int) < ok
        · have d2 : decide ((63 : Int) < ok) = true := decide_eq_true h2
          have HF := HNO.out (by rw [HE.out, decide_eq_false (show ¬ ok < 64 by omega)]; simp)
          go_wp2_with fail
          go_ret
          exact ⟨ret_int (mayN_no HF.out), hc2⟩
        · have d2 : decide ((63 : Int) < ok) = false := decide_eq_false h2
          by_cases h3 : ov < 0
          · have d3 : decide (ov < 0) = true := decide_eq_true h3
            have HF := HNO.out (by rw [HE.out, decide_eq_false (show ¬ 0 ≤ ov by omega)]; simp)
            go_wp2_with fail
            go_ret
            exact ⟨ret_int (mayN_no HF.out), hc2⟩
          · have d3 : decide (ov < 0) = false := decide_eq_false h3
            by_cases h4 : (2147483647 : Int) < ov
            · have d4 : decide ((2147483647 : Int) < ov) = true := decide_eq_true h4
              have HF := HNO.out (by rw [HE.out, decide_eq_false (show ¬ ov ≤ 2147483647 by omega)]; simp)
              go_wp2_with fail
              go_ret
              exact ⟨ret_int (mayN_no HF.out), hc2⟩
            · have d4 : decide ((2147483647 : Int) < ov) = false := decide_eq_false h4
              have HF0 := Lib.hid (show opOk ⟨ow, ok, ov⟩ = (!ow || decide (0 < ov)) from by
                rw [HE.out, decide_eq_true (show 0 ≤ ok by omega), decide_eq_true (show ok < 64 by omega), decide_eq_true (show 0 ≤ ov by omega), decide_eq_true (show ov ≤ 2147483647 by omega)]; rfl)
              have hyes : opOk ⟨ow, ok, ov⟩ = true → Hid (∀ j, j < i + 1 → opOk (xs.getD j opZero) = true) := fun h => Lib.hid (fun j hj => by
                by_cases e : j = i
                · rw [e, HX.out]; exact h
                · exact hst.out j (by omega))
              have HY := Lib.hid hyes
              clear hyes
              cases ow with
              | false =>
                have HT := HY.out (by rw [HF0.out]; rfl)
                go_wp2_with fail
                go_roundw
                case rel => exact ⟨i + 1, by go_num, by omega, HT, hc2⟩
                case measure => simp [intOf]; omega
              | true =>
                by_cases h5 : ov = 0
                · have d5 : (ov == 0) = true := by simp [h5]
                  have HF := HNO.out (by rw [HF0.out, h5]; rfl)
                  clear h5
                  go_wp2_with fail
                  go_ret
                  exact ⟨ret_int (mayN_no HF.out), hc2⟩
                · have d5 : (ov == 0) = false := by simp [h5]
                  have HT := HY.out (by rw [HF0.out, decide_eq_true (show 0 < ov by omega)]; rfl)
                  clear h5
                  go_wp2_with fail
                  go_roundw
                  case rel => exact ⟨i + 1, by go_num, by omega, HT, hc2⟩
                  case measure => simp [intOf]; omega
    · have hd : decide ((i : Int) < (n : Int)) = false := decide_eq_false (by omega)
      have HF := Lib.hid (show mayL xs = true from may_all (fun j hj => hst.out j (by have := HN.out; omega)))
      go_wp2_with fail
      go_ret
      exact ⟨ret_int (mayN_yes HF.out), hc⟩
end Go.Proofs.YtobfanodjdkkoaaDoor
