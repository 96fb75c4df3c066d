/- The functions of package fuel, and of its reference, come to plain numbers; a meter is a block of three cells. Their arguments' bounds are each theorem's own. -/
import Derived.Test.YtkpkdacifbolkaaFuelPure
namespace Go.Proofs.Ytkpkdacifbolkaa
open Go.RowKit
open Fuel (lvl)

theorem times_any (a b : Int) (w : World) (ha : 1 ≤ a) (ha2 : a ≤ 4611686018427387904) (hb : 0 ≤ b) :
   Calls Try.prog 42 #[.int .i64 a, .int .i64 b] w fun e w' => e = .returned (.int .i64 (Fuel.times a b)) ∧ w = w' := by
  have ho := @Fuel.over a b ha
  have hu := @Fuel.under a b ha
  have hp : 0 ≤ a * b := Int.mul_nonneg (by omega) hb
  by_cases h : 4611686018427387904 / a < b
  · have h2 := ho h
    clear ho hu
    go_enter Try.func42, Try.ntmps42
    go_wp2
    go_ret
    exact ⟨ret_int (by unfold Fuel.times; omega), rfl⟩
  · have h2 := hu (by omega)
    have h1 : b ≤ 4611686018427387904 / a := by omega
    clear ho hu h
    have hw : wrap64 (a * b) = a * b := by unfold wrap64; omega
    go_enter Try.func42, Try.ntmps42
    go_wp2
    all_goals
      go_ret
      exact ⟨ret_int (by unfold Fuel.times; omega), rfl⟩

theorem level_fuel (n : Int) (w : World) (h1 : n ≤ 9223372036854775806) :
   Calls Try.prog 13 #[.int .i64 n] w fun e w' => e = .returned (.int .i64 (Fuel.of n)) ∧ w = w' := by
  go_enter Try.func13, Try.ntmps13
  go_wp2
  go_loop [3, 4] (fun f i => ∃ k : Nat, f = .int .i64 (lvl k) ∧ i = .int .i64 (k + 2) ∧ (k : Int) ≤ max (n - 1) 0) (fun _ i => (n + 2 - intOf i).toNat)
  case atStart => exact ⟨0, rfl, rfl, by omega⟩
  case round =>
    obtain ⟨k, rfl, rfl, hk⟩ := hrel
    have hb := Fuel.lvl_bd k
    by_cases hlt : (k : Int) + 2 ≤ n
    · go_wp2_with (go_at_call 42; refine (times_any _ _ _ (by omega) (by omega) (by omega)).mono ?_; rintro e w' ⟨rfl, rfl⟩)
      go_round
      case rel => exact ⟨k + 1, rfl, by go_num, by omega⟩
      case measure => simp [intOf]; omega
    · go_wp2
      go_ret
      exact ⟨ret_int (by unfold Fuel.of; rw [show (n - 1).toNat = k from by omega]), rfl⟩

theorem all_fuel (n : Int) (w : World) (h1 : n ≤ 9223372036854775806) :
   Calls Try.prog 14 #[.int .i64 n] w fun e w' => e = .returned (.int .i64 (Fuel.times (Fuel.of n) 12)) ∧ w = w' := by
  have hb := Fuel.of_bd n
  go_enter Try.func14, Try.ntmps14
  go_wp2_with fail
  refine (level_fuel n _ h1).mono ?_
  rintro e w' ⟨rfl, rfl⟩
  go_wp2_with fail
  refine (times_any _ _ _ (by omega) (by omega) (by omega)).mono ?_
  rintro e w' ⟨rfl, rfl⟩
  go_wp2_with fail
  go_ret
  exact ⟨rfl, rfl⟩

theorem product_ref (a b : Int) (w : World) (ha : 1 ≤ a) (ha2 : a ≤ 4611686018427387904) (hb : 0 ≤ b) (hb2 : b ≤ 9223372036854775806) :
   Calls Try.prog 15 #[.int .i64 a, .int .i64 b] w fun e w' => e = .returned (.int .i64 (Fuel.times a b)) ∧ w = w' := by
  go_enter Try.func15, Try.ntmps15
  go_wp2
  go_loop [5, 6] (fun o i => ∃ (k : Nat) (x : Int), o = .int .i64 x ∧ i = .int .i64 k ∧ (k : Int) ≤ b ∧ Hid (x = a * k) ∧ 0 ≤ x ∧ x ≤ 4611686018427387904) (fun _ i => (b + 2 - intOf i).toNat)
  case atStart => exact ⟨0, 0, rfl, rfl, by omega, by show (0 : Int) = _; simp, by omega, by omega⟩
  case round =>
    obtain ⟨k, x, rfl, rfl, hk, hx, hx0, hx1⟩ := hrel
    have hsu : a * (((k + 1 : Nat)) : Int) = a * k + a := by rw [Int.natCast_add, Int.mul_add]; simp
    have HSU := Lib.hid hsu
    clear hsu
    by_cases hlt : (k : Int) < b
    · by_cases h2 : 4611686018427387904 - a < x
      · go_wp2
        go_ret
        refine ⟨ret_int ?_, rfl⟩
        have h3 : a * (((k + 1 : Nat)) : Int) ≤ a * b := Int.mul_le_mul_of_nonneg_left (by omega) (by omega)
        have := HSU.out; have := hx.out
        unfold Fuel.times; omega
      · go_wp2
        go_round
        case rel => exact ⟨k + 1, x + a, by go_num, by go_num, by omega, by show x + a = _; rw [HSU.out, hx.out], by omega, by omega⟩
        case measure => simp [intOf]; omega
    · go_wp2
      go_ret
      refine ⟨ret_int ?_, rfl⟩
      obtain rfl : b = k := by omega
      have := hx.out
      unfold Fuel.times; omega

theorem level_ref (n : Int) (w : World) :
   Calls Try.prog 12 #[.int .i64 n] w fun e w' => e = .returned (.int .i64 (Fuel.of n)) ∧ w = w' := by
  go_enter Try.func12, Try.ntmps12
  go_wp2
  go_loop [3, 4] (fun f i => ∃ k : Nat, f = .int .i64 (lvl (k - 1)) ∧ i = .int .i64 (k + 1) ∧ (k : Int) ≤ max n 0 ∧ k ≤ 64) (fun _ i => (70 - intOf i).toNat)
  case atStart => exact ⟨0, rfl, rfl, by omega, by omega⟩
  case round =>
    obtain ⟨k, rfl, rfl, hk, hk2⟩ := hrel
    have hb := Fuel.lvl_bd (k - 1)
    by_cases hlt : (k : Int) + 1 ≤ n
    · by_cases h64 : k < 64
      · have hs := Lib.hid (Fuel.step_ref k)
        go_wp2_with (go_at_call 15; refine (product_ref _ _ _ (by omega) (by omega) (by omega) (by omega)).mono ?_; rintro e w' ⟨rfl, rfl⟩)
        go_round
        case rel => exact ⟨k + 1, by rw [hs.out], by go_num, by omega, by omega⟩
        case measure => simp [intOf]; omega
      · have h64' : 64 ≤ k := by omega
        go_wp2
        go_ret
        exact ⟨ret_int (by unfold Fuel.of; rw [Fuel.lvl_big _ (by omega), Fuel.lvl_big _ (by omega)]), rfl⟩
    · go_wp2
      go_ret
      exact ⟨ret_int (by unfold Fuel.of; rw [show (n - 1).toNat = k - 1 from by omega]), rfl⟩

def meter (l u : Int) (e : Bool) : Array Value := #[.int .i64 l, .int .i64 u, .bool e]
def IsM (w : World) (g : Nat) (l u : Int) (e : Bool) : Prop := Blk w g (meter l u e) 59

theorem IsM.c0 {w : World} {g : Nat} {l u : Int} {e : Bool} (h : IsM w g l u e) : w.cell? ⟨g, 0, none⟩ = some (.int .i64 l) := Blk.cell h rfl
theorem IsM.c1 {w : World} {g : Nat} {l u : Int} {e : Bool} (h : IsM w g l u e) : w.cell? ⟨g, 1, none⟩ = some (.int .i64 u) := Blk.cell h rfl
theorem IsM.c2 {w : World} {g : Nat} {l u : Int} {e : Bool} (h : IsM w g l u e) : w.cell? ⟨g, 2, none⟩ = some (.bool e) := Blk.cell h rfl

theorem new_meter (a : Int) (w : World) :
   Calls Try.prog 16 #[.int .i64 a] w fun e w' => e = .returned (.pointer (some ⟨w.heap.size, 0, none⟩)) ∧ IsM w' w.heap.size (max a 0) 0 (decide (4611686018427387904 ≤ a)) ∧ Ch nob w w' := by
  have h1 : 0 < a → max a 0 = a := by omega
  go_enter Try.func16, Try.ntmps16
  go_wp2
  · go_ret
    refine ⟨rfl, ?_, (Ch.refl _ _).alloc _⟩
    rw [show max a 0 = 0 from by omega]
    exact Blk.new _ _ _
  · go_ret
    refine ⟨rfl, ?_, (Ch.refl _ _).alloc _⟩
    rw [show max a 0 = a from by omega]
    exact Blk.new _ _ _

theorem left_meter (g : Nat) (l u : Int) (b : Bool) (w : World) (h : IsM w g l u b) :
   Calls Try.prog 17 #[.pointer (some ⟨g, 0, none⟩)] w fun e w' => e = .returned (.int .i64 (if b then 4611686018427387904 else l)) ∧ w = w' := by
  have c0 := IsM.c0 h
  have c2 := IsM.c2 h
  clear h
  cases b
  all_goals
    go_enter Try.func17, Try.ntmps17
    go_wp2
    go_ret
    exact ⟨rfl, rfl⟩

theorem used_meter (g : Nat) (l u : Int) (b : Bool) (w : World) (h : IsM w g l u b) :
   Calls Try.prog 18 #[.pointer (some ⟨g, 0, none⟩)] w fun e w' => e = .returned (.int .i64 u) ∧ w = w' := by
  have c1 := IsM.c1 h
  clear h
  go_enter Try.func18, Try.ntmps18
  go_wp2
  go_ret
  exact ⟨rfl, rfl⟩

/-- Without an end. -/
theorem spend_endless (g : Nat) (l u : Int) (w : World) (h : IsM w g l u true) :
   Calls Try.prog 19 #[.pointer (some ⟨g, 0, none⟩)] w fun e w' => e = .returned (.bool true) ∧ IsM w' g l (wrap64 (u + 1)) true ∧ Ch (· = g) w w' := by
  have c1 := IsM.c1 h
  have c2 := IsM.c2 h
  have f1 := Blk.free h 1
  have hs := Lib.hid (Blk.set h 1 (.int .i64 (wrap64 (u + 1))))
  clear h
  go_enter Try.func19, Try.ntmps19
  go_wp2
  go_ret
  exact ⟨rfl, hs.out, (Ch.refl (· = g) w).setCell _ _ (fun _ => rfl)⟩
theorem spend_none (g : Nat) (u : Int) (w : World) (h : IsM w g 0 u false) :
   Calls Try.prog 19 #[.pointer (some ⟨g, 0, none⟩)] w fun e w' => e = .returned (.bool false) ∧ w = w' := by
  have c0 := IsM.c0 h
  have c2 := IsM.c2 h
  clear h
  go_enter Try.func19, Try.ntmps19
  go_wp2
  go_ret
  exact ⟨rfl, rfl⟩
theorem spend_one (g : Nat) (l u : Int) (w : World) (h : IsM w g l u false) (hl : 1 ≤ l) (hl2 : l ≤ 9223372036854775807) :
   Calls Try.prog 19 #[.pointer (some ⟨g, 0, none⟩)] w fun e w' => e = .returned (.bool true) ∧ IsM w' g (l - 1) (wrap64 (u + 1)) false ∧ Ch (· = g) w w' := by
  have c0 := IsM.c0 h
  have c1 := IsM.c1 h
  have c2 := IsM.c2 h
  have f0 := Blk.free h 0
  have f1 := Blk.free h 1
  have hs := Lib.hid ((Blk.set h 0 (.int .i64 (l - 1))).set 1 (.int .i64 (wrap64 (u + 1))))
  clear h
  go_enter Try.func19, Try.ntmps19
  go_wp2
  go_ret
  exact ⟨rfl, hs.out, ((Ch.refl (· = g) w).setCell _ _ (fun _ => rfl)).setCell _ _ (fun _ => rfl)⟩
end Go.Proofs.Ytkpkdacifbolkaa
