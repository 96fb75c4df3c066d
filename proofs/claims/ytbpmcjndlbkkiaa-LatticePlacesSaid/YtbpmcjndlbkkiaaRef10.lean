/- The reference's table comes to the same plain answers. No condition but each theorem's own. -/
import Derived.Test.YtbpmcjndlbkkiaaLevel2
set_option linter.unusedVariables false
set_option linter.unusedSimpArgs false
namespace Go.Proofs.Ytbpmcjndlbkkiaa
open Go.RowKit

/-- Of all bits below t: none is wanted that isn't had. -/
def okU (h w t : Int) : Bool := ([1, 2, 4, 8, 16, 32] : List Int).all fun b => decide (t ≤ b) || !hasI w b || hasI h b
def isBit (t : Int) : Prop := t = 1 ∨ t = 2 ∨ t = 4 ∨ t = 8 ∨ t = 16 ∨ t = 32 ∨ t = 64
theorem okU_step (h w t : Int) (ht : isBit t) (h1 : t ≤ 32) : okU h w (t * 2) = (okU h w t && (!hasI w t || hasI h t)) := by
  rcases ht with rfl | rfl | rfl | rfl | rfl | rfl | rfl
  all_goals first | omega | simp [okU, Bool.and_assoc]
theorem okU_one (h w : Int) : okU h w 1 = true := by simp [okU]
theorem okU_impl (a b : Int) (ha : 0 ≤ a ∧ a < 12) (hb : 0 ≤ b ∧ b < 12) : okU (cl (asksI a) : Nat) (asksI b : Nat) 64 = impl a b := by
  obtain ⟨n, rfl⟩ := Int.eq_ofNat_of_zero_le ha.1
  obtain ⟨m, rfl⟩ := Int.eq_ofNat_of_zero_le hb.1
  have : ∀ n m : Fin 12, okU (cl (asksI (n.val : Int)) : Nat) (asksI (m.val : Int) : Nat) 64 = impl n.val m.val := by decide +kernel
  exact this ⟨n, by omega⟩ ⟨m, by omega⟩
theorem okU_false (h w t : Int) (ht : isBit t) (h1 : t ≤ 32) (hw : hasI w t = true) (hh : hasI h t = false) : okU h w 64 = false := by
  rcases ht with rfl | rfl | rfl | rfl | rfl | rfl | rfl
  all_goals first | omega | simp [okU, hw, hh]

theorem impl_out (a b : Int) (h : ¬ (0 ≤ a ∧ a < 12 ∧ 0 ≤ b ∧ b < 12)) : impl a b = false := by
  unfold impl isL
  by_cases ha : 0 ≤ a ∧ a < 12
  · rw [decide_eq_false (show ¬ (0 ≤ b ∧ b < 12) by omega)]; simp
  · rw [decide_eq_false ha]; simp

theorem implies_ref (a b : Int) (w : World) : Calls Try.prog 8 #[.int .i64 a, .int .i64 b] w fun e w' => e = .returned (.bool (impl a b)) ∧ w = w' := by
  by_cases h : 0 ≤ a ∧ a < 12 ∧ 0 ≤ b ∧ b < 12
  · obtain ⟨a0, a1, b0, b1⟩ := h
    rw [← okU_impl a b ⟨a0, a1⟩ ⟨b0, b1⟩]
    have hla := asksI_lt a
    have hlb := asksI_lt b
    have hlc := cl_lt (asksI a)
    obtain ⟨p, hp⟩ : ∃ p, asksI a = p := ⟨_, rfl⟩
    obtain ⟨q, hq⟩ : ∃ q, asksI b = q := ⟨_, rfl⟩
    obtain ⟨c, hcc⟩ : ∃ c, cl p = c := ⟨_, rfl⟩
    have r1 : ∀ w, Calls Try.prog 16 #[.int .i64 a] w fun e w' => e = .returned (.int .i64 p) ∧ w = w' := fun w => hp ▸ asks_ref a w
    have r2 : ∀ w, Calls Try.prog 16 #[.int .i64 b] w fun e w' => e = .returned (.int .i64 q) ∧ w = w' := fun w => hq ▸ asks_ref b w
    rw [hp] at hla hlc ⊢
    rw [hq] at hlb ⊢
    rw [hcc] at hlc ⊢
    have R1 := Lib.hid r1
    have R2 := Lib.hid r2
    have R3 := Lib.hid (fun w => closed_ref p w hla)
    have HC := Lib.hid hcc
    clear r1 r2 hp hq hcc
    go_enter Try.func8, Try.ntmps8
    go_wp2_with fail
    refine (R1.out _).mono ?_
    rintro e w1 ⟨rfl, rfl⟩
    go_wp2_with fail
    refine (R3.out _).mono ?_
    rintro e w1 ⟨rfl, rfl⟩
    rw [HC.out]
    go_wp2_with fail
    refine (R2.out _).mono ?_
    rintro e w1 ⟨rfl, rfl⟩
    go_wp2_with fail
    go_loop [7] (fun x => ∃ t : Int, x = .int .i64 t ∧ isBit t ∧ 1 ≤ t ∧ t ≤ 64 ∧ Hid (okU c q t = true)) (fun x => (65 - intOf x).toNat)
    case atStart => exact ⟨1, rfl, .inl rfl, by omega, by omega, Lib.hid (okU_one _ _)⟩
    case round =>
      obtain ⟨t, rfl, hb, ht1, ht2, hok⟩ := hrel
      by_cases hlt : t ≤ 32
      · have hb2 : isBit (t * 2) := by
          rcases hb with rfl | rfl | rfl | rfl | rfl | rfl | rfl <;> first | omega | (unfold isBit; omega)
        have HS := Lib.hid (okU_step c q t hb hlt)
        have HF := Lib.hid (okU_false c q t hb hlt)
        cases h1 : hasI q t
        · have hok2 : Hid (okU c q (t * 2) = true) := by show _ = _; rw [HS.out, hok.out, h1]; rfl
          go_wp2_with fail
          refine (has_ref _ _ (by omega) (by omega) (by omega) _).mono ?_
          rintro e w1 ⟨rfl, rfl⟩
          go_wp2_with fail
          go_round
          case rel => exact ⟨t * 2, rfl, hb2, by omega, by omega, hok2⟩
          case measure => simp [intOf]; omega
        · cases h2 : hasI c t
          · go_wp2_with fail
            refine (has_ref _ _ (by omega) (by omega) (by omega) _).mono ?_
            rintro e w1 ⟨rfl, rfl⟩
            go_wp2_with fail
            refine (has_ref _ _ (by omega) (by omega) (by omega) _).mono ?_
            rintro e w1 ⟨rfl, rfl⟩
            go_wp2_with fail
            go_ret
            exact ⟨ret_bool (by rw [HF.out h1 h2]), rfl⟩
          · have hok2 : Hid (okU c q (t * 2) = true) := by show _ = _; rw [HS.out, hok.out, h2]; simp
            go_wp2_with fail
            refine (has_ref _ _ (by omega) (by omega) (by omega) _).mono ?_
            rintro e w1 ⟨rfl, rfl⟩
            go_wp2_with fail
            refine (has_ref _ _ (by omega) (by omega) (by omega) _).mono ?_
            rintro e w1 ⟨rfl, rfl⟩
            go_wp2_with fail
            go_round
            case rel => exact ⟨t * 2, rfl, hb2, by omega, by omega, hok2⟩
            case measure => simp [intOf]; omega
      · have ht : t = 64 := by rcases hb with rfl | rfl | rfl | rfl | rfl | rfl | rfl <;> first | omega | rfl
        subst ht
        go_wp2_with fail
        go_ret
        exact ⟨ret_bool (by rw [hok.out]), rfl⟩
  · have ho := Lib.hid (impl_out a b h)
    by_cases a0 : a < 0
    · go_enter Try.func8, Try.ntmps8
      go_wp2_with fail
      go_ret
      exact ⟨ret_bool (by rw [ho.out]), rfl⟩
    · by_cases a1 : 11 < a
      · go_enter Try.func8, Try.ntmps8
        go_wp2_with fail
        go_ret
        exact ⟨ret_bool (by rw [ho.out]), rfl⟩
      · by_cases b0 : b < 0
        · go_enter Try.func8, Try.ntmps8
          go_wp2_with fail
          go_ret
          exact ⟨ret_bool (by rw [ho.out]), rfl⟩
        · have b1 : 11 < b := by omega
          go_enter Try.func8, Try.ntmps8
          go_wp2_with fail
          go_ret
          exact ⟨ret_bool (by rw [ho.out]), rfl⟩
end Go.Proofs.Ytbpmcjndlbkkiaa
