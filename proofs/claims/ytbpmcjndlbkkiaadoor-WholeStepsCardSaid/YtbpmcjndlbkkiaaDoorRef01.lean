/- The reference's sets, number by number, come to plain sets. No condition but each theorem's own. -/
import Derived.Test.YtbpmcjndlbkkiaaDoorSet
set_option linter.unusedVariables false
set_option linter.unusedSimpArgs false
namespace Go.Proofs.YtbpmcjndlbkkiaaDoor
open Go.RowKit
namespace Ref01
def hasL (l : List Int) (n : Int) : Bool := l.any fun x => x == n
theorem any_take_succ (l : List Int) (p : Int → Bool) (k : Nat) (h : k < l.length) : (l.take (k + 1)).any p = ((l.take k).any p || p (l.getD k 0)) := by
  rw [List.take_add_one, List.any_append, List.getElem?_eq_getElem h]
  simp [List.getD_eq_getElem?_getD, h]
theorem all_take_succ (l : List Int) (p : Int → Bool) (k : Nat) (h : k < l.length) : (l.take (k + 1)).all p = ((l.take k).all p && p (l.getD k 0)) := by
  rw [List.take_add_one, List.all_append, List.getElem?_eq_getElem h]
  simp [List.getD_eq_getElem?_getD, h]
theorem any_of_at (l : List Int) (p : Int → Bool) (k : Nat) (h : k < l.length) (hp : p (l.getD k 0) = true) : l.any p = true := by
  rw [List.any_eq_true]
  exact ⟨l.getD k 0, by rw [List.getD_eq_getElem?_getD, List.getElem?_eq_getElem h]; exact List.getElem_mem h, hp⟩
theorem all_of_at (l : List Int) (p : Int → Bool) (k : Nat) (h : k < l.length) (hp : p (l.getD k 0) = false) : l.all p = false := by
  rw [List.all_eq_false]
  exact ⟨l.getD k 0, by rw [List.getD_eq_getElem?_getD, List.getElem?_eq_getElem h]; exact List.getElem_mem h, by rw [hp]; decide⟩

theorem has_ref01 (v : Value) (l : List Int) (n : Int) (w : World) (hl : Ints w v l) : Calls Tryd.prog 16 #[v, .int .i64 n] w fun e w' => e = .returned (.bool (hasL l n)) ∧ w = w' := by
  obtain ⟨A, c, rfl⟩ := hl.shape
  obtain ⟨_, hlen, hcells⟩ := hl.at
  clear hl
  have HC := Lib.hid hcells
  clear hcells
  go_enter Tryd.func16, Tryd.ntmps16
  go_wp2_with fail
  go_loop [5] (fun q => ∃ k : Nat, q = .int .i64 k ∧ k ≤ l.length ∧ Hid ((l.take k).any (fun x => x == n) = false)) (fun q => l.length - (intOf q).toNat)
  case atStart => exact ⟨0, rfl, by omega, Lib.hid rfl⟩
  case round =>
    obtain ⟨k, rfl, hk, hn⟩ := hrel
    by_cases hlt : k < l.length
    · obtain ⟨ad, rfl, hx⟩ := HC.out k hlt
      have HS := Lib.hid (any_take_succ l (fun x => x == n) k hlt)
      have HA := Lib.hid (any_of_at l (fun x => x == n) k hlt)
      generalize l.getD k 0 = z at hx HS HA
      cases he : z == n
      · have hn2 : Hid ((l.take (k + 1)).any (fun x => x == n) = false) := by show _ = _; rw [HS.out, hn.out]; exact he
        clear HC
        go_wp2_with fail
        go_round
        case rel => exact ⟨k + 1, by go_num, by omega, hn2⟩
        case measure => simp [intOf]; omega
      · clear HC
        go_wp2_with fail
        go_ret
        exact ⟨ret_bool (HA.out he).symm, rfl⟩
    · clear HC
      go_wp2_with fail
      go_ret
      refine ⟨ret_bool ?_, rfl⟩
      have := hn.out
      rw [List.take_of_length_le (by omega)] at this
      exact this.symm

theorem same_step (a b : List Int) (hl : a.length = b.length) (k : Nat) (hk : k < a.length) (hp : a.take k = b.take k) (he : a.getD k 0 = b.getD k 0) : a.take (k + 1) = b.take (k + 1) := by
  rw [List.take_add_one, List.take_add_one, hp, List.getElem?_eq_getElem hk, List.getElem?_eq_getElem (hl ▸ hk)]
  rw [List.getD_eq_getElem?_getD, List.getD_eq_getElem?_getD, List.getElem?_eq_getElem hk, List.getElem?_eq_getElem (hl ▸ hk)] at he
  simp at he
  rw [he]
theorem same_ref01 (v u : Value) (a b : List Int) (w : World) (ha : Ints w v a) (hb : Ints w u b) : Calls Tryd.prog 13 #[v, u] w fun e w' => e = .returned (.bool (decide (a = b))) ∧ Dr w w' := by
  obtain ⟨A, c, rfl⟩ := ha.shape
  obtain ⟨_, hlen, hcells⟩ := ha.at
  obtain ⟨B, d, rfl⟩ := hb.shape
  obtain ⟨_, hlenb, hcellsb⟩ := hb.at
  clear ha hb
  have HA := Lib.hid hcells
  have HB := Lib.hid hcellsb
  clear hcells hcellsb
  by_cases hl : a.length = b.length
  · have HL := Lib.hid hl
    have hl1 : a.length ≤ b.length := by omega
    have hl2 : b.length ≤ a.length := by omega
    have hne : ((a.length : Int) != (b.length : Int)) = false := by simp [hl]
    clear hl
    go_enter Tryd.func13, Tryd.ntmps13
    go_wp2_with fail
    go_loopw [5] (fun q wr => ∃ k : Nat, q = .int .i64 k ∧ k ≤ a.length ∧ Hid (a.take k = b.take k) ∧ Dr w wr) (fun q _ => a.length - (intOf q).toNat)
    case atStart => exact ⟨0, rfl, by omega, Lib.hid rfl, Dr.refl _⟩
    case round =>
      obtain ⟨k, rfl, hk, hn, hw⟩ := hrel
      by_cases hlt : k < a.length
      · obtain ⟨ad, rfl, hx⟩ := HA.out k hlt
        obtain ⟨bd, rfl, hy⟩ := HB.out k (by omega)
        replace hx := hw.cell hx
        replace hy := hw.cell hy
        have hkb : (k : Int) < (b.length : Int) := by omega
        have hka : (k : Int) < (a.length : Int) := by omega
        have HS := Lib.hid (same_step a b HL.out k hlt hn.out)
        have HD : Hid (a = b → a.getD k 0 = b.getD k 0) := Lib.hid (fun e => by rw [e])
        generalize a.getD k 0 = x at hx HS HD
        generalize b.getD k 0 = y at hy HS HD
        by_cases he : x = y
        · have hb1 : (x != y) = false := by simp [he]
          have hn2 := Lib.hid (HS.out he)
          clear he
          go_wp2_with fail
          go_quiet (fail)
          go_wp2_with fail
          go_roundw
          case rel => exact ⟨k + 1, by go_num, by omega, hn2, hw.step _⟩
          case measure => simp [intOf]; omega
        · have hb1 : (x != y) = true := by simp [he]
          have HE := Lib.hid he
          clear he
          go_wp2_with fail
          go_quiet (fail)
          go_wp2_with fail
          go_ret
          exact ⟨ret_bool (decide_eq_false (fun e => HE.out (HD.out e))).symm, hw.step _⟩
      · go_wp2_with fail
        go_ret
        refine ⟨ret_bool ?_, hw⟩
        have h1 := hn.out
        rw [List.take_of_length_le (by omega), List.take_of_length_le (by omega)] at h1
        exact (decide_eq_true h1).symm
  · have hne : ((a.length : Int) != (b.length : Int)) = true := by simp [bne_iff_ne]; omega
    have HL := Lib.hid hl
    clear hl
    go_enter Tryd.func13, Tryd.ntmps13
    go_wp2_with fail
    go_ret
    exact ⟨ret_bool (decide_eq_false (fun e => HL.out (by rw [e]))).symm, Dr.refl _⟩
theorem bit_ref01 (s : Nat) (n : Int) (w : World) (hs : s < 18446744073709551616) : Calls Tryd.prog 36 #[.int .u64 s, .int .i64 n] w fun e w' => e = .returned (.bool (hasS s n)) ∧ w = w' := by
  by_cases h0 : n < 0
  · have h := Lib.hid (show hasS s n = false from by unfold hasS inS; rw [decide_eq_false (by omega)]; rfl)
    go_enter Tryd.func36, Tryd.ntmps36
    go_wp2_with fail
    go_ret
    exact ⟨ret_bool h.out.symm, rfl⟩
  · by_cases h1 : 63 < n
    · have h := Lib.hid (show hasS s n = false from by unfold hasS inS; rw [decide_eq_false (by omega)]; rfl)
      go_enter Tryd.func36, Tryd.ntmps36
      go_wp2_with fail
      go_ret
      exact ⟨ret_bool h.out.symm, rfl⟩
    · obtain ⟨k, rfl⟩ := Int.eq_ofNat_of_zero_le (show 0 ≤ n by omega)
      have h := Lib.hid (show hasS s k = s.testBit k from by unfold hasS inS; rw [decide_eq_true (by omega)]; rfl)
      have hb := Lib.hid (Nat.testBit_eq_decide_div_mod_eq (x := s) (i := k))
      go_enter Tryd.func36, Tryd.ntmps36
      go_wp2_with fail
      go_loop [0, 5] (fun x q => ∃ i y : Nat, q = .int .i64 i ∧ i ≤ k ∧ x = .int .u64 y ∧ Hid (y = s / 2 ^ i) ∧ y < 18446744073709551616) (fun _ q => k - (intOf q).toNat)
      case atStart => exact ⟨0, s, rfl, by omega, rfl, by show s = s / 2 ^ 0; simp, hs⟩
      case round =>
        obtain ⟨i, y, rfl, hi, rfl, hy, hylt⟩ := hrel
        by_cases hlt : i < k
        · have hy2 : Hid (y / 2 = s / 2 ^ (i + 1)) := by show _ = _; rw [hy.out, Nat.div_div_eq_div_mul, Nat.pow_succ]
          go_wp2_with fail
          go_round
          case rel => exact ⟨i + 1, y / 2, by go_num, by omega, by go_num, hy2, by omega⟩
          case measure => simp [intOf]; omega
        · obtain rfl : i = k := by omega
          go_wp2_with fail
          go_ret
          refine ⟨ret_bool ?_, rfl⟩
          rw [h.out, hb.out, ← hy.out, Bool.eq_iff_iff, beq_iff_eq, decide_eq_true_iff]
          omega

/-- A set by definition, from the greatest number on. -/
def bn (p : Nat → Bool) : Nat → Nat
  | 0 => 0
  | d + 1 => 2 * bn p d + if p (63 - d) then 1 else 0
theorem bn_lt (p : Nat → Bool) (d : Nat) : bn p d < 2 ^ d := by
  induction d with
  | zero => exact Nat.zero_lt_one
  | succ d ih =>
    rw [Nat.pow_succ]
    show 2 * bn p d + (if p (63 - d) then 1 else 0) < _
    split <;> omega
theorem bn_bit (p : Nat → Bool) (d : Nat) (hd : d ≤ 64) : ∀ j, (bn p d).testBit j = (decide (j < d) && p (64 - d + j)) := by
  induction d with
  | zero => intro j; simp [bn]
  | succ d ih =>
    intro j
    show (2 * bn p d + if p (63 - d) then 1 else 0).testBit j = _
    cases j with
    | zero =>
      rw [Nat.testBit_zero, show 64 - (d + 1) + 0 = 63 - d from by omega]
      cases hp : p (63 - d) <;> simp <;> omega
    | succ j =>
      rw [Nat.testBit_succ, show (2 * bn p d + if p (63 - d) then 1 else 0) / 2 = bn p d from by split <;> omega, ih (by omega) j, show 64 - d + j = 64 - (d + 1) + (j + 1) from by omega]
      congr 1
      exact decide_eq_decide.2 (by omega)
def ofRef (l : List Int) : Nat := bn (fun i => hasL l i) 64
theorem ofRef_bit (l : List Int) (j : Nat) : (ofRef l).testBit j = (decide (j < 64) && hasL l j) := by
  unfold ofRef; rw [bn_bit _ 64 (Nat.le_refl _)]; simp

/-- The list of the first k numbers for which p holds. -/
def upto (p : Nat → Bool) (k : Nat) : List Int := ((List.range k).filter p).map fun i : Nat => (i : Int)
theorem upto_succ (p : Nat → Bool) (k : Nat) : upto p (k + 1) = upto p k ++ if p k then [(k : Int)] else [] := by
  unfold upto
  rw [List.range_succ, List.filter_append, List.map_append]
  cases h : p k <;> simp [h]
theorem upto_le (p : Nat → Bool) (k : Nat) : (upto p k).length ≤ k := by
  unfold upto
  rw [List.length_map]
  have := List.length_filter_le p (List.range k)
  simpa using this
theorem list_ref01 (s : Nat) (w : World) (hs : s < 18446744073709551616) : Calls Tryd.prog 11 #[.int .u64 s] w (RetOwn .i64 w 3 (listS s)) := by
  have hl : upto (fun i => s.testBit i) 64 = listS s := rfl
  have HL := Lib.hid hl
  clear hl
  go_enter Tryd.func11, Tryd.ntmps11
  go_wp2_with fail
  have ho0 := OwnK.made .i64 w w.heap.size 3 (Nat.le_refl _)
  have hc0 := (Ch.refl nob w).alloc (.cells #[] 3)
  generalize w.alloc _ = w1 at ho0 hc0 ⊢
  go_loopw [3, 4] (fun o q wr => ∃ k : Nat, q = .int .i64 k ∧ k ≤ 64 ∧ Own wr w.heap.size 3 o (upto (fun i => s.testBit i) k) ∧ Ch nob w wr) (fun _ q _ => 64 - (intOf q).toNat)
  case atStart => exact ⟨0, rfl, by omega, ho0, hc0⟩
  case round =>
    clear ho0 hc0
    obtain ⟨k, rfl, hk, ho, hc⟩ := hrel
    by_cases hlt : k < 64
    · have HU := Lib.hid (upto_succ (fun i => s.testBit i) k)
      have hle := upto_le (fun i => s.testBit i) k
      have hb := Lib.hid (show hasS s k = s.testBit k from by unfold hasS inS; rw [decide_eq_true (by omega)]; rfl)
      go_wp2_with fail
      refine (bit_ref01 _ _ _ hs).mono ?_
      rintro e w2 ⟨rfl, rfl⟩
      rw [hb.out]
      cases ht : s.testBit k
      · have ho2 : Own wr w.heap.size 3 u3 (upto (fun i => s.testBit i) (k + 1)) := by rw [HU.out, ht]; simpa using ho
        clear ho
        go_wp2_with fail
        go_roundw
        case rel => exact ⟨k + 1, by go_num, by omega, ho2, hc⟩
        case measure => simp [intOf]; omega
      · have HT := Lib.hid ht
        have hof := Lib.hid (ho.alloc (.cells #[.int .i64 (k : Int)] 3))
        have hc2 := Lib.hid (hc.alloc (.cells #[.int .i64 (k : Int)] 3))
        have hnb := Lib.hid (Blk.new wr #[.int .i64 (k : Int)] 3)
        have hge := hc2.out.size
        clear ho hc ht
        go_wp2_with (at_builtin; refine wpList_append_int rfl (.tmp 13) (.tmp 15) 30 3 rfl .i64 8 elem_int (by decide) w.heap.size u3 _ rfl hof.out wr.heap.size (k : Int) 3 rfl hnb.out (by omega) (by omega) ?_; intro v' w' hown hg; have hc4 := hc2.out.grown_own hg (fun b hb => (hof.out.ge b hb).1); have hown2 : Own w' w.heap.size 3 v' (upto (fun i => s.testBit i) (k + 1)) := (by rw [HU.out, HT.out]; exact hown); clear hown hg)
        go_roundw
        case rel => exact ⟨k + 1, by go_num, by omega, hown2, hc4⟩
        case measure => simp [intOf]; omega
    · obtain rfl : k = 64 := by omega
      go_wp2_with fail
      go_ret
      exact ⟨_, rfl, by have := HL.out; rw [← this]; exact ho, hc⟩
end Ref01
end Go.Proofs.YtbpmcjndlbkkiaaDoor
