/- More of the reference's table, over lists. No condition but each theorem's own. -/
import Derived.Test.YtbpmcjndlbkkiaaRef10
import Derived.Test.YtbpmcjndlbkkiaaSl
set_option linter.unusedVariables false
set_option linter.unusedSimpArgs false
namespace Go.Proofs.Ytbpmcjndlbkkiaa
open Go.RowKit

def hasL (l : List Int) (n : Int) : Bool := l.any fun x => x == n
theorem any_take_succ (l : List Int) (p : Int → Bool) (k : Nat) (h : k < l.length) : (l.take (k + 1)).any p = ((l.take k).any p || p (l.getD k 0)) := by
  rw [List.take_add_one, List.any_append, List.getElem?_eq_getElem h]
  simp [List.getD_eq_getElem?_getD, h]
theorem all_take_succ (l : List Int) (p : Int → Bool) (k : Nat) (h : k < l.length) : (l.take (k + 1)).all p = ((l.take k).all p && p (l.getD k 0)) := by
  rw [List.take_add_one, List.all_append, List.getElem?_eq_getElem h]
  simp [List.getD_eq_getElem?_getD, h]
theorem any_of_at (l : List Int) (p : Int → Bool) (k : Nat) (h : k < l.length) (hp : p (l.getD k 0) = true) : l.any p = true := by
  rw [List.any_eq_true]
  exact ⟨l.getD k 0, by rw [List.getD_eq_getElem?_getD, List.getElem?_eq_getElem h]; exact List.getElem_mem h, hp⟩
theorem all_of_at (l : List Int) (p : Int → Bool) (k : Nat) (h : k < l.length) (hp : p (l.getD k 0) = false) : l.all p = false := by
  rw [List.all_eq_false]
  exact ⟨l.getD k 0, by rw [List.getD_eq_getElem?_getD, List.getElem?_eq_getElem h]; exact List.getElem_mem h, by rw [hp]; decide⟩

theorem has_ref10 (v : Value) (l : List Int) (n : Int) (w : World) (hl : Ints w v l) : Calls Try.prog 21 #[v, .int .i64 n] w fun e w' => e = .returned (.bool (hasL l n)) ∧ w = w' := by
  obtain ⟨A, c, rfl⟩ := hl.shape
  obtain ⟨_, hlen, hcells⟩ := hl.at
  clear hl
  have HC := Lib.hid hcells
  clear hcells
  go_enter Try.func21, Try.ntmps21
  go_wp2_with fail
  go_loop [5] (fun q => ∃ k : Nat, q = .int .i64 k ∧ k ≤ l.length ∧ Hid ((l.take k).any (fun x => x == n) = false)) (fun q => l.length - (intOf q).toNat)
  case atStart => exact ⟨0, rfl, by omega, Lib.hid rfl⟩
  case round =>
    obtain ⟨k, rfl, hk, hn⟩ := hrel
    by_cases hlt : k < l.length
    · obtain ⟨ad, rfl, hx⟩ := HC.out k hlt
      have HS := Lib.hid (any_take_succ l (fun x => x == n) k hlt)
      have HA := Lib.hid (any_of_at l (fun x => x == n) k hlt)
      generalize l.getD k 0 = z at hx HS HA
      cases he : z == n
      · have hn2 : Hid ((l.take (k + 1)).any (fun x => x == n) = false) := by show _ = _; rw [HS.out, hn.out]; exact he
        clear HC
        go_wp2_with fail
        go_round
        case rel => exact ⟨k + 1, by go_num, by omega, hn2⟩
        case measure => simp [intOf]; omega
      · clear HC
        go_wp2_with fail
        go_ret
        exact ⟨ret_bool (HA.out he).symm, rfl⟩
    · clear HC
      go_wp2_with fail
      go_ret
      refine ⟨ret_bool ?_, rfl⟩
      have := hn.out
      rw [List.take_of_length_le (by omega)] at this
      exact this.symm

def rowOk (l : List Int) (a : Int) (b : Nat) : Bool := !(impl a b && !hasL l b)
def refClosed (l : List Int) : Bool := l.all fun a => (List.range 12).all fun b => rowOk l a b
theorem rangeAll_succ (p : Nat → Bool) (k : Nat) : (List.range (k + 1)).all p = ((List.range k).all p && p k) := by
  rw [List.range_succ, List.all_append]; simp
theorem rangeAll_false (p : Nat → Bool) (n k : Nat) (hk : k < n) (h : p k = false) : (List.range n).all p = false := by
  rw [List.all_eq_false]; exact ⟨k, by simp [hk], by rw [h]; decide⟩

theorem closed_ref10 (v : Value) (l : List Int) (w : World) (hl : Ints w v l) : Calls Try.prog 13 #[v] w fun e w' => e = .returned (.bool (refClosed l)) ∧ w = w' := by
  obtain ⟨A, c, rfl⟩ := hl.shape
  obtain ⟨_, hlen, hcells⟩ := hl.at
  have HC := Lib.hid hcells
  clear hcells
  have HL := Lib.hid hl
  clear hl
  go_enter Try.func13, Try.ntmps13
  go_wp2_with fail
  go_loop [3] (fun q => ∃ k : Nat, q = .int .i64 k ∧ k ≤ l.length ∧ Hid ((l.take k).all (fun a => (List.range 12).all fun b => rowOk l a b) = true)) (fun q => l.length - (intOf q).toNat)
  case atStart => exact ⟨0, rfl, by omega, Lib.hid rfl⟩
  case round =>
    obtain ⟨k, rfl, hk, hn⟩ := hrel
    by_cases hlt : k < l.length
    · have hd : decide ((k : Int) < (l.length : Int)) = true := decide_eq_true (by omega)
      obtain ⟨ad, rfl, hx⟩ := HC.out k hlt
      have HS := Lib.hid (all_take_succ l (fun a => (List.range 12).all fun b => rowOk l a b) k hlt)
      have HA := Lib.hid (all_of_at l (fun a => (List.range 12).all fun b => rowOk l a b) k hlt)
      generalize l.getD k 0 = z at hx HS HA
      go_wp2_with fail
      go_loop [4] (fun q => ∃ b : Nat, q = .int .i64 b ∧ b ≤ 12 ∧ Hid ((List.range b).all (fun b => rowOk l z b) = true)) (fun q => 12 - (intOf q).toNat)
      case atStart => exact ⟨0, rfl, by omega, Lib.hid rfl⟩
      case round =>
        obtain ⟨b, rfl, hb, hm⟩ := hrel
        by_cases hlt2 : b < 12
        · have HR := Lib.hid (rangeAll_succ (fun b => rowOk l z b) b)
          have HF := Lib.hid (rangeAll_false (fun b => rowOk l z b) 12 b hlt2)
          cases h1 : impl z b
          · have hm2 : Hid ((List.range (b + 1)).all (fun b => rowOk l z b) = true) := by show _ = _; rw [HR.out, hm.out]; simp [rowOk, h1]
            go_wp2_with (go_at_call 8; refine (implies_ref _ _ _).mono ?_; rintro e w6 ⟨rfl, rfl⟩)
            go_round
            case rel => exact ⟨b + 1, by go_num, by omega, hm2⟩
            case measure => simp [intOf]; omega
          · cases h2 : hasL l b
            · go_wp2_with (first | (go_at_call 8; refine (implies_ref _ _ _).mono ?_; rintro e w6 ⟨rfl, rfl⟩) | (go_at_call 21; refine (has_ref10 _ l _ _ HL.out).mono ?_; rintro e w6 ⟨rfl, rfl⟩))
              go_ret
              refine ⟨ret_bool ?_, rfl⟩
              exact (HA.out (HF.out (by simp [rowOk, h1, h2]))).symm
            · have hm2 : Hid ((List.range (b + 1)).all (fun b => rowOk l z b) = true) := by show _ = _; rw [HR.out, hm.out]; simp [rowOk, h2]
              go_wp2_with (first | (go_at_call 8; refine (implies_ref _ _ _).mono ?_; rintro e w6 ⟨rfl, rfl⟩) | (go_at_call 21; refine (has_ref10 _ l _ _ HL.out).mono ?_; rintro e w6 ⟨rfl, rfl⟩))
              go_round
              case rel => exact ⟨b + 1, by go_num, by omega, hm2⟩
              case measure => simp [intOf]; omega
        · obtain rfl : b = 12 := by omega
          have hn2 : Hid ((l.take (k + 1)).all (fun a => (List.range 12).all fun b => rowOk l a b) = true) := by show _ = _; rw [HS.out, hn.out]; exact hm.out
          go_wp2_with fail
          go_round
          case rel => exact ⟨k + 1, by go_num, by omega, hn2⟩
          case measure => simp [intOf]; omega
    · go_wp2_with fail
      go_ret
      refine ⟨ret_bool ?_, rfl⟩
      have := hn.out
      rw [List.take_of_length_le (by omega)] at this
      exact this.symm

theorem same_step (a b : List Int) (hl : a.length = b.length) (k : Nat) (hk : k < a.length) (hp : a.take k = b.take k) (he : a.getD k 0 = b.getD k 0) : a.take (k + 1) = b.take (k + 1) := by
  rw [List.take_add_one, List.take_add_one, hp, List.getElem?_eq_getElem hk, List.getElem?_eq_getElem (hl ▸ hk)]
  rw [List.getD_eq_getElem?_getD, List.getD_eq_getElem?_getD, List.getElem?_eq_getElem hk, List.getElem?_eq_getElem (hl ▸ hk)] at he
  simp at he
  rw [he]
end Go.Proofs.Ytbpmcjndlbkkiaa
