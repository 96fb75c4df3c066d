/- The names of the levels, as the program and its reference tell them. No condition but each theorem's own. -/
import Derived.Test.YtbpmcjndlbkkiaaLevel2
import Derived.Test.YtbpmcjndlbkkiaaArr
set_option linter.unusedVariables false
set_option linter.unusedSimpArgs false
namespace Go.Proofs.Ytbpmcjndlbkkiaa
open Go.RowKit

theorem nameI_ite (l : Int) : nameI l = if (l == 0) = true then nameB 0 else if (l == 1) = true then nameB 1 else if (l == 2) = true then nameB 2 else if (l == 3) = true then nameB 3 else if (l == 4) = true then nameB 4 else if (l == 5) = true then nameB 5 else if (l == 6) = true then nameB 6 else if (l == 7) = true then nameB 7 else if (l == 8) = true then nameB 8 else if (l == 9) = true then nameB 9 else if (l == 10) = true then nameB 10 else if (l == 11) = true then nameB 11 else ⟨#[]⟩ := by
  by_cases h : 0 ≤ l ∧ l < 12
  · obtain ⟨n, rfl⟩ := Int.eq_ofNat_of_zero_le h.1
    have hn : n < 12 := by omega
    clear h
    rcases n with _|_|_|_|_|_|_|_|_|_|_|_|n <;> first | rfl | omega
  · simp only [beq_iff_eq]
    repeat rw [if_neg (by omega)]
    unfold nameI
    split
    · unfold nameB
      rw [List.getD_eq_getElem?_getD, List.getElem?_eq_none (by simp; omega)]
      rfl
    · rfl
theorem nameI_out (l : Int) (h : ¬ (0 ≤ l ∧ l < 12)) : nameI l = ⟨#[]⟩ := by
  rw [nameI_ite]
  simp only [beq_iff_eq]
  repeat rw [if_neg (by omega)]

def namesArr : Array Value := arrOf 12 fun k => .string (nameB k)
theorem zero_names (w : World) : (zeroValue 54).run Try.prog w = .ok (.agg (arrOf 12 fun _ => .string ⟨#[]⟩)) w := by kernel_rfl
theorem names_level (w : World) : Calls Try.prog 29 #[] w fun e w' => e = .returned (.agg namesArr) ∧ Ch nob w w' := by
  go_enter Try.func29, Try.ntmps29
  go_wp2
  refine bodyPost_ret (v := .agg namesArr) ?_ rfl ⟨rfl, (Ch.refl _ _).alloc _⟩
  exact results_cell_row rfl _ _ w.heap.size 54 namesArr (0, 0) _ rfl (Blk.new w namesArr 54) rfl rfl (by kernel_rfl)

theorem name_ref (l : Int) (w : World) : Calls Try.prog 10 #[.int .i64 l] w fun e w' => e = .returned (.string (nameI l)) ∧ w = w' := by
  rw [nameI_ite]
  go_enter Try.func10, Try.ntmps10
  go_wp2
  all_goals
    go_ret
    exact ⟨by simp [*] <;> rfl, rfl⟩
theorem index_names (k : Nat) (hk : k < 12) (w : World) : (Instr.index 54 (.agg namesArr) (.int .i64 k)).run Try.prog w = .ok (.string (nameB k)) w :=
  run_index_one (e := 9) (len := 12) (by kernel_rfl) w (by kernel_rfl) (by kernel_rfl) _ _ _ _ (by omega) (by omega) (arrOf_get _ _ _ hk)

theorem name_level (l : Int) (w : World) : Calls Try.prog 25 #[.int .i64 l] w fun e w' => e = .returned (.string (nameI l)) ∧ Ch nob w w' := by
  by_cases h : 0 ≤ l ∧ l < 12
  · have hl : isL l = true := decide_eq_true h
    obtain ⟨h0, h1⟩ := h
    obtain ⟨n, rfl⟩ := Int.eq_ofNat_of_zero_le h0
    have hix := fun w => index_names n (by omega) w
    have hn := Lib.hid (show nameI (n : Int) = nameB n from by unfold nameI; rw [if_pos (by omega)]; rfl)
    go_enter Try.func25, Try.ntmps25
    go_wp2_with fail
    refine (is_level _ _).mono ?_
    rintro e w1 ⟨rfl, rfl⟩
    go_wp2_with fail
    refine (names_level _).mono ?_
    rintro e w1 ⟨rfl, hc⟩
    go_wp2_with fail
    go_ret
    exact ⟨by rw [hn.out]; rfl, hc⟩
  · have hl : isL l = false := decide_eq_false h
    have ho := Lib.hid (nameI_out l h)
    go_enter Try.func25, Try.ntmps25
    go_wp2_with fail
    refine (is_level _ _).mono ?_
    rintro e w1 ⟨rfl, rfl⟩
    go_wp2_with fail
    go_ret
    exact ⟨by rw [ho.out]; rfl, Ch.refl _ _⟩

/-- Which level a name is: the first one of that name. -/
def ofIdx (s : ByteArray) : Option Nat := (List.range 12).find? fun k => (nameB k).toList == s.toList
theorem ofIdx_some (s : ByteArray) (k : Nat) (hk : k < 12) (h : ((nameB k).toList == s.toList) = true) (hn : ∀ j, j < k → ((nameB j).toList == s.toList) = false) : ofIdx s = some k := by
  unfold ofIdx
  rw [List.find?_range_eq_some]
  exact ⟨h, by simp [hk], fun j hj => by rw [hn j hj]; rfl⟩
theorem ofIdx_none (s : ByteArray) (hn : ∀ j, j < 12 → ((nameB j).toList == s.toList) = false) : ofIdx s = none := by
  unfold ofIdx
  rw [List.find?_range_eq_none]
  exact fun j hj => by rw [hn j hj]; rfl
end Go.Proofs.Ytbpmcjndlbkkiaa
