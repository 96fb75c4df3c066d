/- A number in words, by the document (burgageref03.Num). No condition but each theorem's own. -/
import Derived.Test.YtobfanodjdkkoaaDoorText
import Derived.Laws.IdiomStrings
set_option linter.unusedVariables false
set_option linter.unusedSimpArgs false
namespace Go.Proofs.YtobfanodjdkkoaaDoor
open Go.RowKit Go.Proofs

theorem one_byte (w : World) (d : Nat) (hd : d < 10) (z : Int) (hz : z = 48 + (d : Int)) : (convert 47 9 (.slice (some ⟨w.heap.size, 0, none⟩) 1 1)).run Tryd.prog (w.alloc (.cells #[.int .u8 z] 5)) = .ok (.string ⟨[UInt8.ofNat (48 + d)].toArray⟩) (w.alloc (.cells #[.int .u8 z] 5)) := by
  refine run_convert_bytes_back _ 47 9 5 ⟨w.heap.size, 0, none⟩ 1 [UInt8.ofNat (48 + d)] und_bytes (by kernel_rfl) und_str (fun j hj => ?_)
  obtain rfl : j = 0 := by simp at hj; exact hj
  have hb := (Blk.new w #[.int .u8 z] 5).cell (i := 0) (v := .int .u8 z) rfl
  have e : (⟨w.heap.size, 0, none⟩ : Addr).add 0 = ⟨w.heap.size, 0, none⟩ := by unfold Addr.add; simp
  rw [e, hb, hz]
  have h2 : (UInt8.ofNat (48 + d)).toNat = 48 + d := by
    rw [UInt8.toNat_ofNat']
    omega
  show _ = some (Value.int .u8 ((UInt8.ofNat (48 + d)).toNat : Int))
  rw [h2]
  rfl
theorem digits_len (u : Nat) (h : u ≤ 9223372036854775807) : (Lib.decDigits u).length ≤ 21 := by
  have := Lib.itoa_length_le (u : Int) (by omega) (by omega)
  rw [Lib.itoa_nonneg] at this
  exact this
theorem digits_more {u : Nat} (h : ¬ u < 10) : Lib.decDigits u = Lib.decDigits (u / 10) ++ [UInt8.ofNat (48 + u % 10)] := by
  rw [Lib.decDigits, dif_neg h]
set_option maxRecDepth 100000 in
set_option maxHeartbeats 2000000 in
theorem num_pos (u : Nat) : u ≤ 9223372036854775807 → ∀ w : World, Calls Tryd.prog 15 #[.int .i64 u] w fun e w' => e = .returned (.string ⟨(Lib.itoa (u : Int)).toArray⟩) ∧ Ch nob w w' := by
  induction u using Nat.strongRecOn with
  | _ u ih =>
    intro hu w
    have hd0 : decide ((u : Int) < 0) = false := decide_eq_false (by omega)
    have hcv := one_byte w (u % 10) (by omega) (48 + (u : Int) % 10) (by omega)
    have hc0 : Ch nob w (w.alloc (.cells #[.int .u8 (48 + (u : Int) % 10)] 5)) := (Ch.refl _ _).alloc _
    by_cases h10 : u < 10
    · have hd1 : decide ((u : Int) < 10) = true := decide_eq_true (by omega)
      have HR := Lib.hid (show Lib.itoa (u : Int) = [UInt8.ofNat (48 + u % 10)] from by rw [Lib.itoa_nonneg, Lib.decDigits_one h10, Nat.mod_eq_of_lt h10])
      obtain ⟨R, hR⟩ : ∃ q, UInt8.ofNat (48 + u % 10) = q := ⟨_, rfl⟩
      rw [hR] at HR hcv
      clear ih hR
      go_enter Tryd.func15, Tryd.ntmps15
      go_wp2_with fail
      go_ret
      exact ⟨by rw [HR.out]; rfl, hc0⟩
    · have hd1 : decide ((u : Int) < 10) = false := decide_eq_false (by omega)
      have H := ih (u / 10) (by omega) (by omega) (w.alloc (.cells #[.int .u8 (48 + (u : Int) % 10)] 5))
      rw [Lib.itoa_nonneg, show ((u / 10 : Nat) : Int) = (u : Int) / 10 from by omega] at H
      have hdl := digits_len (u / 10) (by omega)
      have HR := Lib.hid (show Lib.itoa (u : Int) = Lib.decDigits (u / 10) ++ [UInt8.ofNat (48 + u % 10)] from by rw [Lib.itoa_nonneg, digits_more h10])
      obtain ⟨R, hR⟩ : ∃ q, UInt8.ofNat (48 + u % 10) = q := ⟨_, rfl⟩
      obtain ⟨D, hD⟩ : ∃ q, Lib.decDigits (u / 10) = q := ⟨_, rfl⟩
      rw [hR] at HR hcv
      rw [hD] at HR H hdl
      have HH := Lib.hid H
      have hq : ¬ 9223372036854775807 < D.length + 1 := by omega
      have e1 := Lib.hid (str_append D [R])
      clear ih hR H hD hdl
      go_enter Tryd.func15, Tryd.ntmps15
      go_wp2_with fail
      refine HH.out.mono ?_
      rintro e w2 ⟨rfl, hc2⟩
      have hc3 := hc0.seq hc2
      go_wp2_with fail
      go_ret
      exact ⟨by rw [HR.out, ← e1.out]; rfl, hc3⟩
set_option maxRecDepth 100000 in
set_option maxHeartbeats 2000000 in
theorem num_neg (u : Nat) : 1 ≤ u → u ≤ 9223372036854775808 → ∀ w : World, Calls Tryd.prog 15 #[.int .i64 (-(u : Int))] w fun e w' => e = .returned (.string ⟨(Lib.itoa (-(u : Int))).toArray⟩) ∧ Ch nob w w' := by
  induction u using Nat.strongRecOn with
  | _ u ih =>
    intro h1 hu w
    have hd0 : decide (0 < u) = true := decide_eq_true (by omega)
    have hcv := one_byte w (u % 10) (by omega) (48 + (u : Int) % 10) (by omega)
    have hc0 : Ch nob w (w.alloc (.cells #[.int .u8 (48 + (u : Int) % 10)] 5)) := (Ch.refl _ _).alloc _
    by_cases h10 : u < 10
    · have hd1 : decide (u < 10) = true := decide_eq_true (by omega)
      have hd2 : decide ((u : Int) < 10) = true := decide_eq_true (by omega)
      have HR := Lib.hid (show Lib.itoa (-(u : Int)) = [45] ++ [UInt8.ofNat (48 + u % 10)] from by rw [Lib.itoa_neg u h1, Lib.decDigits_one h10, Nat.mod_eq_of_lt h10]; rfl)
      obtain ⟨R, hR⟩ : ∃ q, UInt8.ofNat (48 + u % 10) = q := ⟨_, rfl⟩
      rw [hR] at HR hcv
      have e1 := Lib.hid (str_append [45] [R])
      clear ih hR
      go_enter Tryd.func15, Tryd.ntmps15
      go_wp2_with fail
      go_ret
      exact ⟨by rw [HR.out, ← e1.out]; rfl, hc0⟩
    · have hd1 : decide (u < 10) = false := decide_eq_false (by omega)
      have hd2 : decide ((u : Int) < 10) = false := decide_eq_false (by omega)
      have H := ih (u / 10) (by omega) (by omega) (by omega) (w.alloc (.cells #[.int .u8 (48 + (u : Int) % 10)] 5))
      rw [Lib.itoa_neg (u / 10) (by omega), show ((u / 10 : Nat) : Int) = (u : Int) / 10 from by omega] at H
      have hdl := digits_len (u / 10) (by omega)
      have HR := Lib.hid (show Lib.itoa (-(u : Int)) = (45 :: Lib.decDigits (u / 10)) ++ [UInt8.ofNat (48 + u % 10)] from by rw [Lib.itoa_neg u h1, digits_more h10]; rfl)
      obtain ⟨R, hR⟩ : ∃ q, UInt8.ofNat (48 + u % 10) = q := ⟨_, rfl⟩
      have hdl2 : (45 :: Lib.decDigits (u / 10)).length ≤ 22 := by rw [List.length_cons]; omega
      obtain ⟨D, hD⟩ : ∃ q, 45 :: Lib.decDigits (u / 10) = q := ⟨_, rfl⟩
      rw [hR] at HR hcv
      rw [hD] at HR H hdl2
      have HH := Lib.hid H
      have hq : ¬ 9223372036854775807 < D.length + 1 := by omega
      have e1 := Lib.hid (str_append D [R])
      clear ih hR H hD hdl hdl2
      go_enter Tryd.func15, Tryd.ntmps15
      go_wp2_with fail
      refine HH.out.mono ?_
      rintro e w2 ⟨rfl, hc2⟩
      have hc3 := hc0.seq hc2
      go_wp2_with fail
      go_ret
      exact ⟨by rw [HR.out, ← e1.out]; rfl, hc3⟩
theorem num_ref03 (n : Int) (h0 : -9223372036854775808 ≤ n) (h1 : n ≤ 9223372036854775807) (w : World) : Calls Tryd.prog 15 #[.int .i64 n] w fun e w' => e = .returned (.string ⟨(Lib.itoa n).toArray⟩) ∧ Ch nob w w' := by
  rcases Int.lt_or_le n 0 with h | h
  · have := num_neg n.natAbs (by omega) (by omega) w
    rw [show -((n.natAbs : Nat) : Int) = n from by omega] at this
    exact this
  · have := num_pos n.toNat (by omega) w
    rw [show ((n.toNat : Nat) : Int) = n from by omega] at this
    exact this
end Go.Proofs.YtobfanodjdkkoaaDoor
