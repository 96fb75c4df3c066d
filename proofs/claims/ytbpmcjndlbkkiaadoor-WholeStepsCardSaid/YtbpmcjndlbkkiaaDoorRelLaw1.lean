/- What the laws of package burgagelaw02 call of their own: is a relation these pairs? No condition but each theorem's own. -/
import Derived.Test.YtbpmcjndlbkkiaaDoorRelLaw0
set_option linter.unusedVariables false
set_option linter.unusedSimpArgs false
namespace Go.Proofs.YtbpmcjndlbkkiaaDoor
open Go.RowKit
attribute [local go_sem ↓] zero_rel

def sumTo (r : Nat → Nat) : Nat → Nat
  | 0 => 0
  | i + 1 => sumTo r i + Bits.count (r i)
theorem sumTo_le (r : Nat → Nat) : ∀ i, sumTo r i ≤ i * 64
  | 0 => Nat.le_refl _
  | i + 1 => by
    have h1 := sumTo_le r i
    have h2 : Bits.count (r i) ≤ 64 := Bits.list_len _
    unfold sumTo
    omega
def sameR (r : Nat → Nat) (l : List IPair) : Bool := (l.all fun p => hasR r p.1 p.2) && sumTo r 64 == l.length
set_option maxHeartbeats 1000000 in
theorem same_law02 (r : Nat → Nat) (ok : RelOK r) (v : Value) (l : List IPair) (w : World) (hl : Pairs w v l) : Calls Tryd.prog 20 #[.agg (relArr r), v] w fun e w' => e = .returned (.bool (sameR r l)) ∧ Ch nob w w' := by
  obtain ⟨A, c, rfl⟩ := hl.shape
  have HL := Lib.hid hl
  obtain ⟨_, hlen, _⟩ := hl.at
  obtain ⟨hr1, hc1, hs1⟩ := one_new w (relArr r) 27
  clear hl
  go_enter Tryd.func20, Tryd.ntmps20
  go_wp2_with (refine wpList_load_row rfl 27 (.tmp 2) rfl w.heap.size rfl 27 (relArr r) (0, 0) _ hr1 rfl rfl (by rw [relArr_size]; kernel_rfl) ?_)
  generalize w.alloc _ = w1 at hr1 hc1 ⊢
  go_loop [5, 11] (fun n q => ∃ i : Nat, q = .int .i64 i ∧ i ≤ 64 ∧ n = .int .i64 (sumTo r i)) (fun _ q => 64 - (intOf q).toNat)
  case atStart => exact ⟨0, rfl, by omega, rfl⟩
  case round =>
    obtain ⟨i, rfl, hi, rfl⟩ := hrel
    by_cases hlt : i < 64
    · have hix := index_rel r i hlt
      have oi := ok i
      have hs := sumTo_le r i
      have hcl : Bits.count (r i) ≤ 64 := Bits.list_len _
      have HS := Lib.hid (show sumTo r (i + 1) = sumTo r i + Bits.count (r i) from rfl)
      go_wp2_with fail
      refine (count_set (r i) _ oi).mono ?_
      rintro e w2 ⟨rfl, rfl⟩
      go_wp2_with fail
      go_round
      case rel => exact ⟨i + 1, by go_num, by omega, by rw [HS.out]; go_num⟩
      case measure => simp [intOf]; omega
    · obtain rfl : i = 64 := by omega
      have hs := sumTo_le r 64
      obtain ⟨n, hn⟩ : ∃ n, sumTo r 64 = n := ⟨_, rfl⟩
      have HSU := Lib.hid hn
      rw [hn] at hs ⊢
      clear hn
      go_wp2_with fail
      go_loopw [21] (fun q wr => ∃ j : Nat, q = .int .i64 j ∧ j ≤ l.length ∧ Hid (∀ k, k < j → hasR r (l.getD k (0, 0)).1 (l.getD k (0, 0)).2 = true) ∧ Blk wr w.heap.size (relArr r) 27 ∧ Ch nob w wr) (fun q _ => l.length - (intOf q).toNat)
      case atStart => exact ⟨0, rfl, by omega, Lib.hid (fun k hk => by omega), hr1, hc1⟩
      case round =>
        clear hr1 hc1
        obtain ⟨j, rfl, hj, hall, hr, hc⟩ := hrel
        by_cases hltj : j < l.length
        · have hd : decide ((j : Int) < (l.length : Int)) = true := decide_eq_true (by omega)
          obtain ⟨_, _, hcells⟩ := (HL.out.keep hc).at
          obtain ⟨ad, rfl, hx1, hx2⟩ := hcells j hltj
          obtain ⟨p, hpp⟩ : ∃ p, l.getD j (0, 0) = p := ⟨_, rfl⟩
          rw [hpp] at hx1 hx2
          have HP := Lib.hid hpp
          obtain ⟨a, b⟩ := p
          clear hcells hpp
          simp only at hx1 hx2
          have hr2 := hr.alloc (.cells #[.int .i64 a, .int .i64 b] 42)
          have hc2 := hc.alloc (.cells #[.int .i64 a, .int .i64 b] 42)
          clear hr hc
          go_wp2_with (refine wpList_load_row rfl 27 (.tmp 2) rfl w.heap.size rfl 27 (relArr r) (0, 0) _ hr2 rfl rfl (by rw [relArr_size]; kernel_rfl) ?_)
          generalize wr.alloc _ = w2 at hr2 hc2 ⊢
          clear hx1 hx2
          refine (has_rel r ok a b _).mono ?_
          rintro e w3 ⟨rfl, hc3⟩
          have hr4 := hr2.ch hc3 (fun h => h)
          have hc4 := hc2.seq hc3
          clear hr2 hc2 hc3
          cases hh : hasR r a b
          · have HF := Lib.hid (show sameR r l = false from by
              unfold sameR
              rw [Bool.and_eq_false_iff]
              left
              rw [List.all_eq_false]
              refine ⟨(a, b), ?_, by rw [hh]; decide⟩
              have := HP.out
              rw [List.getD_eq_getElem?_getD, List.getElem?_eq_getElem hltj] at this
              rw [← this]
              exact List.getElem_mem hltj)
            clear hh
            go_wp2_with fail
            go_ret
            exact ⟨ret_bool HF.out.symm, hc4⟩
          · have hall2 : Hid (∀ k, k < j + 1 → hasR r (l.getD k (0, 0)).1 (l.getD k (0, 0)).2 = true) := Lib.hid (fun k hk => by
              by_cases h : k = j
              · rw [h, HP.out]; exact hh
              · exact hall.out k (by omega))
            clear hh
            go_wp2_with fail
            go_roundw
            case rel => exact ⟨j + 1, by go_num, by omega, hall2, hr4, hc4⟩
            case measure => simp [intOf]; omega
        · obtain rfl : j = l.length := by omega
          have hd : decide ((l.length : Int) < (l.length : Int)) = false := by simp
          have HF := Lib.hid (show sameR r l = ((n : Int) == (l.length : Int)) from by
            unfold sameR
            have : (l.all fun p => hasR r p.1 p.2) = true := by
              rw [List.all_eq_true]
              intro p hp
              obtain ⟨k, hk, rfl⟩ := List.getElem_of_mem hp
              have := hall.out k hk
              rw [List.getD_eq_getElem?_getD, List.getElem?_eq_getElem hk] at this
              exact this
            rw [this, HSU.out, Bool.true_and, Bool.eq_iff_iff, beq_iff_eq, beq_iff_eq]
            omega)
          go_wp2_with fail
          go_ret
          exact ⟨ret_bool HF.out.symm, hc⟩

/-! ### Plain: what the words on relations mean -/
theorem acyR_iff (r : Nat → Nat) : acyR r = true ↔ ∀ i, i < 64 → ¬ E (closeR r 64) i i := by
  unfold acyR
  rw [List.all_eq_true]
  constructor
  · intro h i hi he
    have := h i (List.mem_range.2 hi)
    rw [hasS_nat _ _ hi, show (closeR r 64 i).testBit i = true from he] at this
    cases this
  · intro h i hi
    have hi := List.mem_range.1 hi
    rw [hasS_nat _ _ hi]
    cases hb : (closeR r 64 i).testBit i with
    | false => rfl
    | true => exact absurd hb (h i hi)
theorem rowSet_get (r : Nat → Nat) (i s k : Nat) : rowSet r i s k = if k = i then s else r k := rfl
theorem testBit_with (s : Nat) (n : Int) (j : Nat) (hj : j < 64) : (withS s n).testBit j = (s.testBit j || decide (n = (j : Int))) := by
  unfold withS inS
  by_cases h : 0 ≤ n ∧ n < 64
  · rw [if_pos (decide_eq_true h), Bits.testBit_put]
    congr 1
    exact decide_eq_decide.2 (by omega)
  · rw [if_neg (by rw [decide_eq_false h]; decide), decide_eq_false (by omega)]; simp
theorem addR_bit (r : Nat → Nat) (a b : Int) (i j : Nat) (hi : i < 64) (hj : j < 64) : E (addR r a b) i j ↔ E r i j ∨ ((i : Int) = a ∧ (j : Int) = b) := by
  unfold addR
  by_cases h : (inS a && inS b) = true
  · rw [if_pos h]
    rw [Bool.and_eq_true] at h
    have h1 := of_decide_eq_true h.1
    have h2 := of_decide_eq_true h.2
    show (rowSet r a.toNat (withS (r a.toNat) b) i).testBit j = true ↔ _
    rw [rowSet_get]
    by_cases e : i = a.toNat
    · rw [if_pos e, testBit_with _ _ _ hj, Bool.or_eq_true, decide_eq_true_iff, e]
      constructor
      · rintro (h | h)
        · exact .inl h
        · exact .inr ⟨by omega, h.symm⟩
      · rintro (h | ⟨_, h⟩)
        · exact .inl h
        · exact .inr h.symm
    · rw [if_neg e]
      constructor
      · exact .inl
      · rintro (h | ⟨h, _⟩)
        · exact h
        · omega
  · rw [if_neg h]
    constructor
    · exact .inl
    · rintro (h' | ⟨h3, h4⟩)
      · exact h'
      · exfalso
        apply h
        unfold inS
        rw [Bool.and_eq_true]
        exact ⟨decide_eq_true (by omega), decide_eq_true (by omega)⟩
/-- The three numbers' relation. -/
def threeR : Nat → Nat := addR (addR (addR (fun _ => 0) 0 2) 2 1) 0 64
theorem three_ok : RelOK threeR := addR_ok (addR_ok (addR_ok (fun _ => by show 0 < _; decide) _ _) _ _) _ _
theorem three_bit (i j : Nat) (hi : i < 64) (hj : j < 64) : E threeR i j ↔ (i = 0 ∧ j = 2) ∨ (i = 2 ∧ j = 1) := by
  unfold threeR
  rw [addR_bit _ _ _ _ _ hi hj, addR_bit _ _ _ _ _ hi hj, addR_bit _ _ _ _ _ hi hj]
  have h0 : ¬ E (fun _ => 0) i j := by show ¬ (0 : Nat).testBit j = true; rw [Nat.zero_testBit]; decide
  constructor
  · rintro (((h | h) | h) | h)
    · exact absurd h h0
    · left; omega
    · right; omega
    · omega
  · rintro (h | h)
    · exact .inl (.inl (.inr (by omega)))
    · exact .inl (.inr (by omega))
theorem three_sort : sortS (turnTo threeR 64) (ofS [0, 1, 2]) = some [0, 2, 1] := by decide +kernel
theorem three_has : hasR (closeR threeR 64) 0 1 = true := by
  have := (closeR_walk threeR 0 1 (by omega) (by omega)).2 ⟨2, by omega, 2, by omega, ⟨0, by omega, rfl, (three_bit 0 2 (by omega) (by omega)).2 (.inl ⟨rfl, rfl⟩)⟩, (three_bit 2 1 (by omega) (by omega)).2 (.inr ⟨rfl, rfl⟩)⟩
  have h := hasR_nat (closeR threeR 64) 0 1 (by omega) (by omega)
  exact h.trans this
theorem three_war : ∀ n a b, a < 64 → b < 64 → Walk threeR (n + 1) a b → (a = 0 ∧ (b = 2 ∨ b = 1)) ∨ (a = 2 ∧ b = 1)
  | 0, a, b, ha, hb, ⟨m, hm, h1, h2⟩ => by
    obtain rfl : a = m := h1
    have := (three_bit a b ha hb).1 h2
    omega
  | n + 1, a, b, ha, hb, ⟨m, hm, h1, h2⟩ => by
    have ih := three_war n a m ha hm h1
    have := (three_bit m b hm hb).1 h2
    omega
theorem three_not (i : Nat) (hi : i < 64) : ¬ E (closeR threeR 64) i i := by
  intro h
  obtain ⟨n, hn, hw⟩ := (closeR_walk _ i i hi hi).1 h
  obtain ⟨k, rfl⟩ : ∃ k, n = k + 1 := ⟨n - 1, by omega⟩
  have := three_war k i i hi hi hw
  omega
theorem three_acy : acyR threeR = true := (acyR_iff _).2 three_not
theorem CycR.acyclic {r : Nat → Nat} {l : List Nat} (h : CycR r l) (hn : ∀ i, i < 64 → ¬ E (closeR r 64) i i) : l = [] := by
  rcases h with h | ⟨_, _, _, _, ⟨i, hi, he⟩, _⟩
  · exact h.1
  · exact absurd he (hn i hi)
end Go.Proofs.YtbpmcjndlbkkiaaDoor
