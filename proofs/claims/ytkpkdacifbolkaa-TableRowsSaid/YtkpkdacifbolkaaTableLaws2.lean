/- A law of package burgagelaw10 answers true, whatever its arguments: TableImplies. No condition. -/
import Derived.Test.YtkpkdacifbolkaaTableLaws
import Derived.Test.YtkpkdacifbolkaaRef10
set_option linter.unusedVariables false
set_option linter.unusedSimpArgs false
namespace Go.Proofs.Ytkpkdacifbolkaa
open Go.RowKit

theorem index_all (n : Nat) (hn : n < 12) (w : World) : (Instr.index 45 (.agg allArr) (.int .i64 n)).run Try.prog w = .ok (.agg (rowArr fun k => impl n k)) w := by
  rw [run_index_agg (e := 44) (len := 12) (s := 12) (by kernel_rfl) w (by kernel_rfl) (by kernel_rfl) _ _ _ (by omega) (by omega)]
  congr 2
  rw [show ((n : Int).toNat) = n from by omega]
  unfold allArr
  rw [arrOf_extract _ _ _ _ (by omega)]
  exact arrOf_ext fun k hk => by rw [allF_at n k hk]

theorem law_implies (a : Int) (ha : -9223372036854775808 ≤ a ∧ a ≤ 9223372036854775807) (b : Int) (hb : -9223372036854775808 ≤ b ∧ b ≤ 9223372036854775807) (w : World) :
    Calls Try.prog 9 #[.int .i64 a, .int .i64 b] w fun e w' => e = .returned (.bool true) ∧ Below w.heap.size w w' := by
  have han : ((missN a b : Int) != bits .andNot .i64 (asksI b : Nat) (cl (asksI a) : Nat)) = false := by
    rw [andNot_small _ _ (asksI_lt b) (cl_lt _)]; simp [missN]
  have hnn : (impl a b != impl a b) = false := by simp
  have hla := asksI_lt a
  go_enter Try.func9, Try.ntmps9
  go_wp2_with fail
  refine (speaks10 _).mono ?_
  rintro e w1 ⟨rfl, hc⟩
  go_wp2_with fail
  refine (implies_any _ _ _).mono ?_
  rintro e w2 ⟨rfl, hc2⟩
  replace hc := hc.seq hc2
  clear hc2
  go_wp2_with fail
  refine (implies_ref _ _ _).mono ?_
  rintro e w3 ⟨rfl, rfl⟩
  go_wp2_with fail
  refine (missing_any _ _ _).mono ?_
  rintro e w3 ⟨rfl, hc2⟩
  replace hc := hc.seq hc2
  clear hc2
  go_wp2_with fail
  refine (asks_ref _ _).mono ?_
  rintro e w4 ⟨rfl, rfl⟩
  go_wp2_with fail
  refine (asks_ref _ _).mono ?_
  rintro e w4 ⟨rfl, rfl⟩
  go_wp2_with fail
  refine (closed_ref _ _ hla).mono ?_
  rintro e w4 ⟨rfl, rfl⟩
  by_cases a0 : a < 0
  · have d0 : decide (a < 0) = true := decide_eq_true a0
    go_wp2_with fail
    go_quiet (fail)
    go_wp2_with fail
    go_ret
    exact ⟨rfl, (hc.drewN _).below⟩
  · have d0 : decide (a < 0) = false := decide_eq_false a0
    by_cases a1 : 11 < a
    · have d1 : decide (11 < a) = true := decide_eq_true a1
      go_wp2_with fail
      go_quiet (fail)
      go_wp2_with fail
      go_ret
      exact ⟨rfl, (hc.drewN _).below⟩
    · have d1 : decide (11 < a) = false := decide_eq_false a1
      by_cases b0 : b < 0
      · have d2 : decide (b < 0) = true := decide_eq_true b0
        go_wp2_with fail
        go_quiet (fail)
        go_wp2_with fail
        go_ret
        exact ⟨rfl, (hc.drewN _).below⟩
      · have d2 : decide (b < 0) = false := decide_eq_false b0
        by_cases b1 : 11 < b
        · have d3 : decide (11 < b) = true := decide_eq_true b1
          go_wp2_with fail
          go_quiet (fail)
          go_wp2_with fail
          go_ret
          exact ⟨rfl, (hc.drewN _).below⟩
        · have d3 : decide (11 < b) = false := decide_eq_false b1
          obtain ⟨n, rfl⟩ := Int.eq_ofNat_of_zero_le (show 0 ≤ a by omega)
          obtain ⟨m, rfl⟩ := Int.eq_ofNat_of_zero_le (show 0 ≤ b by omega)
          have i1 := index_all n (by omega)
          have i2 := index_row (fun k => impl n k) m (by omega)
          go_wp2_with fail
          go_region_held3 (fun w' => Ch nob w w') (first | exact hc.drew | assumption)
            (first | (go_at_call 34; refine (all_table _).mono ?_; rintro e w5 ⟨rfl, hc2⟩; have hc3 : Ch nob w w5 := Ch.seq (by assumption) hc2; clear hc2) | (go_at_call 32; refine (implies_ref _ _ _).mono ?_; rintro e w6 ⟨rfl, rfl⟩))
          all_goals
            go_wp2_with fail
            go_ret
            exact ⟨ret_bool (by simp), Ch.below (by assumption)⟩
end Go.Proofs.Ytkpkdacifbolkaa
