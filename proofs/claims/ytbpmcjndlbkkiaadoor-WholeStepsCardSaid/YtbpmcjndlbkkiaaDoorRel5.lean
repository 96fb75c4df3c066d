/- Relations of numbers below 64: how many steps from one to another. No condition but each theorem's own. -/
import Derived.Test.YtbpmcjndlbkkiaaDoorRel4
set_option linter.unusedVariables false
set_option linter.unusedSimpArgs false
namespace Go.Proofs.YtbpmcjndlbkkiaaDoor
open Go.RowKit
attribute [local go_sem ↓] zero_rel

/-- Whoever is reached by n steps. -/
def stepR (r : Nat → Nat) (s : Nat) : Nat := orTo r (listS s) (listS s).length
def stepsR (r : Nat → Nat) (a : Int) : Nat → Nat
  | 0 => ofS [a]
  | n + 1 => stepR r (stepsR r a n)
theorem stepsR_lt {r : Nat → Nat} (ok : RelOK r) (a : Int) : ∀ n, stepsR r a n < 18446744073709551616
  | 0 => ofS_lt _
  | n + 1 => orTo_lt ok _ _
/-- How many steps, from n on, k more at most. -/
def shortTo (r : Nat → Nat) (a b : Int) : Nat → Nat → Nat
  | n, 0 => n
  | n, k + 1 => if hasS (stepsR r a (n + 1)) b then n + 1 else shortTo r a b (n + 1) k
def shortR (r : Nat → Nat) (a b : Int) : Nat := shortTo r a b 0 65
theorem short_rel (r : Nat → Nat) (ok : RelOK r) (a b : Int) (w : World) (hT : Tab w) : Calls Tryd.prog 37 #[.agg (relArr r), .int .i64 a, .int .i64 b] w fun e w' => e = .returned (.int .i64 (shortR r a b)) ∧ Ch nob w w' := by
  obtain ⟨hr1, hc1, hs1⟩ := one_new w (relArr r) 27
  obtain ⟨ha2, hc2, hs2⟩ := one_new (w.alloc (.cells (relArr r) 27)) #[.int .i64 a] 3
  have hr2 := hr1.ch hc2 (fun h => h)
  have hc3 := hc1.seq hc2
  rw [hs1] at ha2
  go_enter Tryd.func37, Tryd.ntmps37
  go_wp2_with fail
  generalize (w.alloc _).alloc _ = w1 at hr2 ha2 hc3 ⊢
  have hi : Ints w1 (.slice (some ⟨w.heap.size + 1, 0, none⟩) 1 1) [a] := (OwnK.of_blk (k := .i64) (base := w.heap.size + 1) (xs := [a]) ha2 (Nat.le_refl _) (by simp)).ints
  refine (of_set _ [a] _ hi).mono ?_
  rintro e w2 ⟨rfl, rfl⟩
  have HS0 := Lib.hid (show ofS [a] = stepsR r a 0 from rfl)
  rw [HS0.out]
  have HR0 := Lib.hid (show shortR r a b = shortTo r a b 0 (65 - 0) from rfl)
  clear hr1 hc1 hc2 hs1 hs2 ha2 hi
  go_wp2_with fail
  go_loopw [7, 8] (fun s q wr => ∃ n : Nat, q = .int .i64 n ∧ n ≤ 65 ∧ s = .int .u64 (stepsR r a n) ∧ Hid (shortR r a b = shortTo r a b n (65 - n)) ∧ Blk wr w.heap.size (relArr r) 27 ∧ Ch nob w wr) (fun _ q _ => 65 - (intOf q).toNat)
  case atStart => exact ⟨0, rfl, by omega, rfl, HR0, hr2, hc3⟩
  case round =>
    clear hr2 hc3 HR0 HS0
    obtain ⟨n, rfl, hn, rfl, hr0, hr, hc⟩ := hrel
    by_cases hlt : n ≤ 64
    · have hd : decide ((n : Int) ≤ 64) = true := decide_eq_true (by omega)
      have hlo := hr.lt
      have HN := Lib.hid (show stepsR r a (n + 1) = orTo r (listS (stepsR r a n)) (listS (stepsR r a n)).length from rfl)
      have HR := Lib.hid (show shortR r a b = if hasS (stepsR r a (n + 1)) b then n + 1 else shortTo r a b (n + 1) (65 - (n + 1)) from by
        rw [hr0.out, show 65 - n = (65 - (n + 1)) + 1 from by omega]; rfl)
      have ols := stepsR_lt ok a n
      have ols2 := stepsR_lt ok a (n + 1)
      obtain ⟨s, hs⟩ : ∃ s, stepsR r a n = s := ⟨_, rfl⟩
      rw [hs] at HN ols ⊢
      clear hs hr0
      go_wp2_with fail
      refine (list_set s _ ols (hT.keep hc)).mono ?_
      rintro e w2 ⟨v, rfl, hov, hc2⟩
      have hl := hov.ints
      obtain ⟨A, cc, rfl⟩ := hl.shape
      have hr2 := hr.ch hc2 (fun h => h)
      have hc3 := hc.seq hc2
      clear hr hc hc2 hov
      have HO0 := Lib.hid (orTo_zero r (listS s))
      go_wp2_with fail
      go_loop [9, 22] (fun o q => ∃ j : Nat, q = .int .i64 j ∧ j ≤ (listS s).length ∧ o = .int .u64 (orTo r (listS s) j)) (fun _ q => (listS s).length - (intOf q).toNat)
      case atStart => exact ⟨0, rfl, by omega, by rw [HO0.out]; rfl⟩
      case round =>
        obtain ⟨j, rfl, hj, rfl⟩ := hrel
        by_cases hltj : j < (listS s).length
        · have hd2 : decide ((j : Int) < ((listS s).length : Int)) = true := decide_eq_true (by omega)
          obtain ⟨_, _, hcells⟩ := hl.at
          obtain ⟨ad, rfl, hx⟩ := hcells j hltj
          clear hcells
          obtain ⟨m, hm, hm64⟩ := listS_at s j hltj
          have HS := Lib.hid (orTo_succ r (listS s) j hltj)
          rw [hm] at hx HS
          have hxb := hr2.relAt m hm64
          have hor := Bits.or_u64 (orTo r (listS s) j) (r m) (orTo_lt ok _ _) (ok m)
          have HE := Lib.hid (show orTo r (listS s) (j + 1) = orTo r (listS s) j ||| r m from HS.out)
          generalize orTo r (listS s) j = q at hor HE ⊢
          clear hl hr2 hm HS hc3
          go_wp2_with fail
          go_round
          case rel => exact ⟨j + 1, by go_num, by omega, by rw [HE.out]⟩
          case measure => simp [intOf]; omega
        · obtain rfl : j = (listS s).length := by omega
          rw [← HN.out]
          go_wp2_with fail
          refine (has_set _ b _ ols2).mono ?_
          rintro e w3 ⟨rfl, rfl⟩
          cases hh : hasS (stepsR r a (n + 1)) b
          · have HR2 := Lib.hid (show shortR r a b = shortTo r a b (n + 1) (65 - (n + 1)) from by rw [HR.out, hh]; rfl)
            clear hh
            go_wp2_with fail
            go_roundw
            case rel => exact ⟨n + 1, by go_num, by omega, rfl, HR2, hr2, hc3⟩
            case measure => simp [intOf]; omega
          · have HR2 := Lib.hid (show shortR r a b = n + 1 from by rw [HR.out, hh]; rfl)
            clear hh
            go_wp2_with fail
            go_ret
            exact ⟨ret_int (by rw [HR2.out]; rfl), hc3⟩
    · obtain rfl : n = 65 := by omega
      have HR2 := Lib.hid (show shortR r a b = 65 from hr0.out)
      have hd : decide (((65 : Nat) : Int) ≤ 64) = false := by decide
      clear hr0
      go_wp2_with fail
      go_ret
      exact ⟨ret_int (by rw [HR2.out]), hc⟩
end Go.Proofs.YtbpmcjndlbkkiaaDoor
