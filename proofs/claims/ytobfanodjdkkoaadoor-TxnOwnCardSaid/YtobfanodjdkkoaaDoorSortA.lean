/- The library's comparison of ints, and of operations by their keys; stretches exchanged. No condition but each theorem's own. -/
import Derived.Test.YtobfanodjdkkoaaDoorOps
import Derived.Test.YtobfanodjdkkoaaDoorCh
import Derived.IntWalk
set_option linter.unusedVariables false
set_option linter.unusedSimpArgs false
namespace Go.Proofs.YtobfanodjdkkoaaDoor
open Go.RowKit

theorem nan_int (a : Int) (w : World) : Calls Tryd.prog 33 #[.int .i64 a] w fun e w' => e = .returned (.bool false) ∧ w = w' := by
  go_enter Tryd.func33, Tryd.ntmps33
  go_wp2_with fail
  go_ret
  exact ⟨ret_bool (by simp), rfl⟩
def cmpI (a b : Int) : Int := if a < b then -1 else if b < a then 1 else 0
theorem compare_int (a b : Int) (w : World) : Calls Tryd.prog 27 #[.int .i64 a, .int .i64 b] w fun e w' => e = .returned (.int .i64 (cmpI a b)) ∧ w = w' := by
  by_cases h1 : a < b
  · have h := Lib.hid (show cmpI a b = -1 from by unfold cmpI; rw [if_pos h1])
    go_enter Tryd.func27, Tryd.ntmps27
    go_wp2_with (go_at_call 33; refine (nan_int _ _).mono ?_; rintro e w' ⟨rfl, rfl⟩)
    go_ret
    exact ⟨ret_int (by rw [h.out]), rfl⟩
  · by_cases h2 : b < a
    · have h := Lib.hid (show cmpI a b = 1 from by unfold cmpI; rw [if_neg h1, if_pos h2])
      go_enter Tryd.func27, Tryd.ntmps27
      go_wp2_with (go_at_call 33; refine (nan_int _ _).mono ?_; rintro e w' ⟨rfl, rfl⟩)
      go_ret
      exact ⟨ret_int (by rw [h.out]), rfl⟩
    · have h := Lib.hid (show cmpI a b = 0 from by unfold cmpI; rw [if_neg h1, if_neg h2])
      go_enter Tryd.func27, Tryd.ntmps27
      go_wp2_with (go_at_call 33; refine (nan_int _ _).mono ?_; rintro e w' ⟨rfl, rfl⟩)
      go_ret
      exact ⟨ret_int (by rw [h.out]), rfl⟩
theorem by_key (x y : Opn) (w : World) : Calls Tryd.prog 26 #[.agg #[.bool x.wr, .int .i64 x.key, .int .i64 x.val], .agg #[.bool y.wr, .int .i64 y.key, .int .i64 y.val]] w fun e w' => e = .returned (.int .i64 (cmpI x.key y.key)) ∧ Ch nob w w' := by
  obtain ⟨h1, h2, hc, _⟩ := two_new w #[.bool x.wr, .int .i64 x.key, .int .i64 x.val] #[.bool y.wr, .int .i64 y.key, .int .i64 y.val] 33 33
  have hx := h1.cell (i := 1) (v := .int .i64 x.key) rfl
  have hy := h2.cell (i := 1) (v := .int .i64 y.key) rfl
  go_enter Tryd.func26, Tryd.ntmps26
  go_wp2_with fail
  generalize (w.alloc _).alloc _ = w1 at hx hy hc ⊢
  refine (compare_int _ _ _).mono ?_
  rintro e w2 ⟨rfl, rfl⟩
  go_wp2_with fail
  go_ret
  exact ⟨rfl, hc⟩
/-- Two stretches of one length exchanged. -/
def swapR (D : Nat → Opn) (a b n : Nat) : Nat → Opn := fun k => if a ≤ k ∧ k < a + n then D (k - a + b) else if b ≤ k ∧ k < b + n then D (k - b + a) else D k
theorem swapR_zero (D : Nat → Opn) (a b : Nat) : swapR D a b 0 = D := by
  funext k
  unfold swapR
  rw [if_neg (by omega), if_neg (by omega)]
theorem swapR_succ (D : Nat → Opn) (a b i : Nat) (h : a + i < b) : swapD (swapR D a b i) (a + i) (b + i) = swapR D a b (i + 1) := by
  funext k
  rw [swapD_get]
  by_cases h1 : k = b + i
  · subst h1
    rw [if_pos rfl]
    unfold swapR
    rw [if_neg (by omega), if_neg (by omega), if_neg (by omega), if_pos (by omega)]
    congr 1; omega
  · rw [if_neg h1]
    by_cases h2 : k = a + i
    · subst h2
      rw [if_pos rfl]
      unfold swapR
      rw [if_neg (by omega), if_neg (by omega), if_pos (by omega)]
      congr 1; omega
    · rw [if_neg h2]
      unfold swapR
      have e1 : (a ≤ k ∧ k < a + (i + 1)) ↔ (a ≤ k ∧ k < a + i) := by omega
      have e2 : (b ≤ k ∧ k < b + (i + 1)) ↔ (b ≤ k ∧ k < b + i) := by omega
      simp only [e1, e2]
set_option maxHeartbeats 1000000 in
theorem swap_range (g N : Nat) (D : Nat → Opn) (R : Nat → Value) (n cap a b m : Nat) (cmp : Value) (w : World) (hd : OpBlk w g N D R n 33) (hab : a + m ≤ b) (hbn : b + m ≤ n) (hn : n ≤ 1000000) :
    Calls Tryd.prog 45 #[.slice (some ⟨g, 0, none⟩) n cap, .int .i64 a, .int .i64 b, .int .i64 m, cmp] w fun e w' => e = .returned (.tuple #[]) ∧ OpBlk w' g N (swapR D a b m) R n 33 ∧ Ch (· = g) w w' := by
  have HD := Lib.hid (show OpBlk w g N (swapR D a b 0) R n 33 from by rw [swapR_zero]; exact hd)
  go_enter Tryd.func45, Tryd.ntmps45
  go_wp2_with fail
  go_loopw [10] (fun q wr => ∃ i : Nat, q = .int .i64 i ∧ i ≤ m ∧ Hid (OpBlk wr g N (swapR D a b i) R n 33) ∧ Ch (· = g) w wr) (fun q _ => m - (intOf q).toNat)
  case atStart => exact ⟨0, rfl, by omega, HD, Ch.refl _ _⟩
  case round =>
    clear HD hd
    obtain ⟨i, rfl, hi, hb, hc⟩ := hrel
    by_cases hlt : i < m
    · have hd1 : decide ((i : Int) < (m : Int)) = true := decide_eq_true (by omega)
      have HS := Lib.hid (swapR_succ D a b i (by omega))
      obtain ⟨E, hE⟩ : ∃ E, swapR D a b i = E := ⟨_, rfl⟩
      rw [hE] at hb HS
      clear hE
      obtain ⟨x0, x1, x2⟩ := hb.out.at (a + i) (by omega)
      obtain ⟨y0, y1, y2⟩ := hb.out.at (b + i) (by omega)
      have f0 := hb.out.free ((a + i) * 3)
      have f1 := hb.out.free ((a + i) * 3 + 1)
      have f2 := hb.out.free ((a + i) * 3 + 2)
      have k0 := hb.out.free ((b + i) * 3)
      have k1 := hb.out.free ((b + i) * 3 + 1)
      have k2 := hb.out.free ((b + i) * 3 + 2)
      have hi1 : (a : Int) + (i : Int) < (n : Int) := by omega
      have hi2 : (b : Int) + (i : Int) < (n : Int) := by omega
      have hi3 : (0 : Int) ≤ (a : Int) + (i : Int) := by omega
      have hi4 : (0 : Int) ≤ (b : Int) + (i : Int) := by omega
      have hw1 : IntKind.i64.wrap ((a : Int) + (i : Int)) = (a : Int) + (i : Int) := IntWalk.i64_in _ (by omega)
      have hw2 : IntKind.i64.wrap ((b : Int) + (i : Int)) = (b : Int) + (i : Int) := IntWalk.i64_in _ (by omega)
      have ht1 : ((a : Int) + (i : Int)).toNat = a + i := by omega
      have ht2 : ((b : Int) + (i : Int)).toNat = b + i := by omega
      have hb2 := Lib.hid ((hb.out.put (a + i) (by omega) (E (b + i))).put (b + i) (by omega) (E (a + i)))
      have hE2 : upd (upd E (a + i) (E (b + i))) (b + i) (E (a + i)) = swapR D a b (i + 1) := HS.out
      have hb3 : Hid (OpBlk (putOp (putOp wr g (a + i) (E (b + i))) g (b + i) (E (a + i))) g N (swapR D a b (i + 1)) R n 33) := Lib.hid (by rw [← hE2]; exact hb2.out)
      have hc3 : Ch (· = g) w (putOp (putOp wr g (a + i) (E (b + i))) g (b + i) (E (a + i))) := (hc.seqS (putOp_ch _ _ _ _)).seqS (putOp_ch _ _ _ _)
      have hb4 := Lib.hid hb3.out.drew
      have hc4 := hc3.drew
      simp only [putOp] at hb4 hc4
      clear hb hb2 hE2 hc HS hb3 hc3
      go_wp2_with fail
      go_region_with fail
      all_goals
        clear x0 x1 x2 y0 y1 y2 f0 f1 f2 k0 k1 k2 hw1 hw2 ht1 ht2
        go_wp2_with fail
        go_roundw
        case rel => exact ⟨i + 1, by go_num, by omega, hb4, hc4⟩
        case measure => simp [intOf]; omega
    · obtain rfl : i = m := by omega
      have hd1 : decide ((i : Int) < (i : Int)) = false := by simp
      go_wp2_with fail
      go_end0
      exact ⟨rfl, hb.out, hc⟩
end Go.Proofs.YtobfanodjdkkoaaDoor
