/- How many operations a history has. No condition but each theorem's own. -/
import Derived.Test.YtobfanodjdkkoaaTxns
set_option linter.unusedVariables false
set_option linter.unusedSimpArgs false
namespace Go.Proofs.Ytobfanodjdkkoaa
open Go.RowKit Go.Maps

def countTo (hs : List Txr) : Nat → Nat
  | 0 => 0
  | i + 1 => countTo hs i + (hs.getD i txrZero).ops.length
theorem countTo_mono (hs : List Txr) {i j : Nat} (h : i ≤ j) : countTo hs i ≤ countTo hs j := by
  induction j with
  | zero => obtain rfl : i = 0 := by omega
            exact Nat.le_refl _
  | succ j ih =>
    by_cases e : i = j + 1
    · rw [e]; exact Nat.le_refl _
    · have := ih (by omega)
      show _ ≤ countTo hs j + _
      omega
set_option maxHeartbeats 1000000 in
theorem ops_history (w : World) (v : Value) (hs : List Txr) (hv : Txns w v hs) (hn : countTo hs hs.length ≤ 1000000) : Calls Try.prog 15 #[v] w fun e w' => e = .returned (.int .i64 (countTo hs hs.length)) ∧ Ch nob w w' := by
  obtain ⟨A, cp, rfl⟩ := hv.shape
  have HV := Lib.hid hv
  obtain ⟨_, ⟨_, hlen⟩, _⟩ := hv.at
  obtain ⟨n, hn2⟩ : ∃ n, hs.length = n := ⟨_, rfl⟩
  have HN := Lib.hid hn2
  rw [hn2] at HV hlen hn ⊢
  clear hv hn2
  go_enter Try.func15, Try.ntmps15
  go_wp2_with fail
  go_loopw [8, 3] (fun x y wr => ∃ i : Nat, x = .int .i64 i ∧ y = .int .i64 (countTo hs i) ∧ i ≤ n ∧ Ch nob w wr) (fun x _ _ => n - (intOf x).toNat)
  case atStart => exact ⟨0, rfl, rfl, Nat.zero_le _, Ch.refl _ _⟩
  case round =>
    obtain ⟨i, rfl, rfl, hi, hc⟩ := hrel
    by_cases hlt : i < n
    · have hd : decide ((i : Int) < (n : Int)) = true := decide_eq_true (by omega)
      obtain ⟨ad, u, rfl, hx0, hx1, hx2, hx3, hu⟩ := (HV.out.keep hc).at.2.2 i (by rw [HN.out]; exact hlt)
      obtain ⟨A2, c2, rfl⟩ := hu.shape
      have hs1 : countTo hs (i + 1) = countTo hs i + (hs.getD i txrZero).ops.length := rfl
      have hle := countTo_mono hs (show i + 1 ≤ n by omega)
      obtain ⟨x, hx⟩ : ∃ x, hs.getD i txrZero = x := ⟨_, rfl⟩
      rw [hx] at hx0 hx1 hx2 hx3 hs1
      obtain ⟨m, hm⟩ : ∃ m, countTo hs i = m := ⟨_, rfl⟩
      obtain ⟨l, hl⟩ : ∃ l, x.ops.length = l := ⟨_, rfl⟩
      rw [hl] at hx3 hs1
      rw [hm] at hs1 ⊢
      have hb1 : (m : Int) + (l : Int) ≤ 1000000 := by omega
      have HS := Lib.hid hs1
      have hc2 : Ch nob w (wr.alloc (.cells #[.int .i64 x.ses, .int .i64 x.beg, .int .i64 x.com, .slice A2 l c2] 33)) := hc.alloc _
      clear hx hm hl hu hs1 hle hc
      go_wp2_with fail
      go_roundw
      case rel => exact ⟨i + 1, by go_num, by rw [HS.out]; go_num, by omega, hc2⟩
      case measure => simp [intOf]; omega
    · have hd : decide ((i : Int) < (n : Int)) = false := decide_eq_false (by omega)
      obtain rfl : i = n := by omega
      go_wp2_with fail
      go_ret
      exact ⟨rfl, hc⟩
set_option maxHeartbeats 1000000 in
theorem count_ref06 (w : World) (v : Value) (hs : List Txr) (hv : Txns w v hs) (hn : countTo hs hs.length ≤ 1000000) : Calls Try.prog 16 #[v] w fun e w' => e = .returned (.int .i64 (countTo hs hs.length)) ∧ Ch nob w w' := by
  obtain ⟨A, cp, rfl⟩ := hv.shape
  have HV := Lib.hid hv
  obtain ⟨_, ⟨_, hlen⟩, _⟩ := hv.at
  obtain ⟨n, hn2⟩ : ∃ n, hs.length = n := ⟨_, rfl⟩
  have HN := Lib.hid hn2
  rw [hn2] at HV hlen hn ⊢
  clear hv hn2
  go_enter Try.func16, Try.ntmps16
  go_wp2_with fail
  go_loopw [4, 3] (fun x y wr => ∃ i : Nat, x = .int .i64 i ∧ y = .int .i64 (countTo hs i) ∧ i ≤ n ∧ Ch nob w wr) (fun x _ _ => n - (intOf x).toNat)
  case atStart => exact ⟨0, rfl, rfl, Nat.zero_le _, Ch.refl _ _⟩
  case round =>
    obtain ⟨i, rfl, rfl, hi, hc⟩ := hrel
    by_cases hlt : i < n
    · have hd : decide ((i : Int) < (n : Int)) = true := decide_eq_true (by omega)
      obtain ⟨ad, u, rfl, hx0, hx1, hx2, hx3, hu⟩ := (HV.out.keep hc).at.2.2 i (by rw [HN.out]; exact hlt)
      obtain ⟨A2, c2, rfl⟩ := hu.shape
      have hs1 : countTo hs (i + 1) = countTo hs i + (hs.getD i txrZero).ops.length := rfl
      have hle := countTo_mono hs (show i + 1 ≤ n by omega)
      obtain ⟨x, hx⟩ : ∃ x, hs.getD i txrZero = x := ⟨_, rfl⟩
      rw [hx] at hx0 hx1 hx2 hx3 hs1
      obtain ⟨m, hm⟩ : ∃ m, countTo hs i = m := ⟨_, rfl⟩
      obtain ⟨l, hl⟩ : ∃ l, x.ops.length = l := ⟨_, rfl⟩
      rw [hl] at hx3 hs1
      rw [hm] at hs1 ⊢
      have hb1 : (m : Int) + (l : Int) ≤ 1000000 := by omega
      have HS := Lib.hid hs1
      clear hx hm hl hu hs1 hle
      go_wp2_with fail
      go_roundw
      case rel => exact ⟨i + 1, by go_num, by rw [HS.out]; go_num, by omega, hc⟩
      case measure => simp [intOf]; omega
    · have hd : decide ((i : Int) < (n : Int)) = false := decide_eq_false (by omega)
      obtain rfl : i = n := by omega
      go_wp2_with fail
      go_ret
      exact ⟨rfl, hc⟩
end Go.Proofs.Ytobfanodjdkkoaa
