/- Which transactions may be, by the program. No condition but each theorem's own. -/
import Derived.Test.YtobfanodjdkkoaaDoorMay05
set_option linter.unusedVariables false
set_option linter.unusedSimpArgs false
namespace Go.Proofs.YtobfanodjdkkoaaDoor
open Go.RowKit Go.Maps

/-- A transaction: its session, when it begins and commits, its operations. -/
structure Txr where
  ses : Int
  beg : Int
  com : Int
  ops : List Opn
def headOk (s b c : Int) (n : Nat) : Bool := decide (0 ≤ s) && decide (s < 64) && decide (0 ≤ b) && decide (b < c) && decide (c ≤ 2147483647) && decide (1 ≤ n) && decide (n ≤ 64)
def txnOk (s b c : Int) (xs : List Opn) : Bool := headOk s b c xs.length && mayL xs
theorem txnOk_head {s b c : Int} {xs : List Opn} (h : headOk s b c xs.length = false) : txnOk s b c xs = false := by unfold txnOk; rw [h]; rfl
theorem txnOk_rest {s b c : Int} {xs : List Opn} (h : headOk s b c xs.length = true) : txnOk s b c xs = mayL xs := by unfold txnOk; rw [h]; rfl
theorem headOk_no {s b c : Int} {n : Nat} (h : s < 0 ∨ 64 ≤ s ∨ b < 0 ∨ c ≤ b ∨ 2147483647 < c ∨ n < 1 ∨ 64 < n) : headOk s b c n = false := by
  rw [← Bool.not_eq_true]
  unfold headOk
  simp only [Bool.and_eq_true, decide_eq_true_eq]
  omega
theorem headOk_yes {s b c : Int} {n : Nat} (h : ¬ (s < 0 ∨ 64 ≤ s ∨ b < 0 ∨ c ≤ b ∨ 2147483647 < c ∨ n < 1 ∨ 64 < n)) : headOk s b c n = true := by
  unfold headOk
  simp only [Bool.and_eq_true, decide_eq_true_eq]
  omega
set_option maxHeartbeats 4000000 in
theorem right_txn (w : World) (v : Value) (xs : List Opn) (s b c : Int) (hv : Opl w v xs) : Calls Tryd.prog 17 #[.agg #[.int .i64 s, .int .i64 b, .int .i64 c, v]] w fun e w' => e = .returned (.bool (txnOk s b c xs)) ∧ Ch nob w w' := by
  obtain ⟨A, cp, rfl⟩ := hv.shape
  have HV := Lib.hid hv
  obtain ⟨n, hn2⟩ : ∃ n, xs.length = n := ⟨_, rfl⟩
  have HN := Lib.hid hn2
  rw [hn2] at HV ⊢
  obtain ⟨_, hc0, _⟩ := one_new w #[.int .i64 s, .int .i64 b, .int .i64 c, .slice A n cp] 26
  have hno : headOk s b c n = false → Hid (txnOk s b c xs = false) := fun h => Lib.hid (txnOk_head (by rw [HN.out]; exact h))
  have HNO := Lib.hid hno
  clear hv hn2 hno
  by_cases h0 : s < 0
  · have d0 : decide (s < 0) = true := decide_eq_true h0
    have HF := HNO.out (headOk_no (by omega))
    go_enter Tryd.func17, Tryd.ntmps17
    go_wp2_with fail
    go_ret
    exact ⟨ret_bool HF.out.symm, hc0⟩
  · have d0 : decide (s < 0) = false := decide_eq_false h0
    by_cases h1 : (64 : Int) ≤ s
    · have d1 : decide ((64 : Int) ≤ s) = true := decide_eq_true h1
      have HF := HNO.out (headOk_no (by omega))
      go_enter Tryd.func17, Tryd.ntmps17
      go_wp2_with fail
      go_ret
      exact ⟨ret_bool HF.out.symm, hc0⟩
    · have d1 : decide ((64 : Int) ≤ s) = false := decide_eq_false h1
      by_cases h2 : b < 0
      · have d2 : decide (b < 0) = true := decide_eq_true h2
        have HF := HNO.out (headOk_no (by omega))
        go_enter Tryd.func17, Tryd.ntmps17
        go_wp2_with fail
        go_ret
        exact ⟨ret_bool HF.out.symm, hc0⟩
      · have d2 : decide (b < 0) = false := decide_eq_false h2
        by_cases h3 : c ≤ b
        · have d3 : decide (c ≤ b) = true := decide_eq_true h3
          have HF := HNO.out (headOk_no (by omega))
          go_enter Tryd.func17, Tryd.ntmps17
          go_wp2_with fail
          go_ret
          exact ⟨ret_bool HF.out.symm, hc0⟩
        · have d3 : decide (c ≤ b) = false := decide_eq_false h3
          by_cases h4 : (2147483647 : Int) < c
          · have d4 : decide ((2147483647 : Int) < c) = true := decide_eq_true h4
            have HF := HNO.out (headOk_no (by omega))
            go_enter Tryd.func17, Tryd.ntmps17
            go_wp2_with fail
            go_ret
            exact ⟨ret_bool HF.out.symm, hc0⟩
          · have d4 : decide ((2147483647 : Int) < c) = false := decide_eq_false h4
            by_cases h5 : (n : Int) < 1
            · have d5 : decide ((n : Int) < 1) = true := decide_eq_true h5
              have HF := HNO.out (headOk_no (by omega))
              go_enter Tryd.func17, Tryd.ntmps17
              go_wp2_with fail
              go_ret
              exact ⟨ret_bool HF.out.symm, hc0⟩
            · have d5 : decide ((n : Int) < 1) = false := decide_eq_false h5
              by_cases h6 : (64 : Int) < n
              · have d6 : decide ((64 : Int) < n) = true := decide_eq_true h6
                have HF := HNO.out (headOk_no (by omega))
                go_enter Tryd.func17, Tryd.ntmps17
                go_wp2_with fail
                go_ret
                exact ⟨ret_bool HF.out.symm, hc0⟩
              · have d6 : decide ((64 : Int) < n) = false := decide_eq_false h6
                have HR := Lib.hid (show txnOk s b c xs = mayL xs from txnOk_rest (by rw [HN.out]; exact headOk_yes (by omega)))
                go_enter Tryd.func17, Tryd.ntmps17
                go_wp2_with fail
                go_loopw [45] (fun x wr => ∃ i : Nat, x = .int .i64 i ∧ i ≤ n ∧ Hid (∀ j, j < i → opOk (xs.getD j opZero) = true) ∧ Ch nob w wr) (fun x _ => n - (intOf x).toNat)
                case atStart => exact ⟨0, rfl, Nat.zero_le _, Lib.hid (fun j hj => by omega), hc0⟩
                case round =>
                  clear hc0
                  obtain ⟨i, rfl, hi, hst, hc⟩ := hrel
                  by_cases hlt : i < n
                  · have hd : decide ((i : Int) < (n : Int)) = true := decide_eq_true (by omega)
                    obtain ⟨ad, rfl, hx0, hx1, hx2⟩ := (HV.out.keep hc).at.2.2 i (by rw [HN.out]; exact hlt)
                    obtain ⟨x, hx⟩ : ∃ x, xs.getD i opZero = x := ⟨_, rfl⟩
                    rw [hx] at hx0 hx1 hx2
                    have HX := Lib.hid hx
                    have HI := Lib.hid (show i < xs.length from by rw [HN.out]; exact hlt)
                    clear hx
                    have hc2 : Ch nob w (wr.alloc (.cells #[.bool x.wr, .int .i64 x.key, .int .i64 x.val] 33)) := hc.alloc _
                    clear hc
                    go_wp2_with fail
                    refine (right_op x _).mono ?_
                    rintro e w1 ⟨rfl, hc1⟩
                    have hc3 := hc2.seq hc1
                    clear hx0 hx1 hx2 hc1 hc2
                    cases hok : opOk x with
                    | true =>
                      have HT := Lib.hid (show ∀ j, j < i + 1 → opOk (xs.getD j opZero) = true from fun j hj => by
                        by_cases e : j = i
                        · rw [e, HX.out]; exact hok
                        · exact hst.out j (by omega))
                      clear hok
                      go_wp2_with fail
                      go_roundw
                      case rel => exact ⟨i + 1, by go_num, by omega, HT, hc3⟩
                      case measure => simp [intOf]; omega
                    | false =>
                      have HF := Lib.hid (show txnOk s b c xs = false from by rw [HR.out]; exact may_no HI.out (by rw [HX.out]; exact hok))
                      clear hok
                      go_wp2_with fail
                      go_ret
                      exact ⟨ret_bool HF.out.symm, hc3⟩
                  · have hd : decide ((i : Int) < (n : Int)) = false := decide_eq_false (by omega)
                    have HF := Lib.hid (show txnOk s b c xs = true from by rw [HR.out]; exact may_all (fun j hj => hst.out j (by have := HN.out; omega)))
                    go_wp2_with fail
                    go_ret
                    exact ⟨ret_bool HF.out.symm, hc⟩
end Go.Proofs.YtobfanodjdkkoaaDoor
