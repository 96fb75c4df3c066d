/- The laws of package burgagelaw01 answer true, whatever their arguments, where the library's table reads as its text lays it. -/
import Derived.Test.YtkpkdacifbolkaaDoorRef01
set_option linter.unusedVariables false
set_option linter.unusedSimpArgs false
namespace Go.Proofs.YtkpkdacifbolkaaDoor
open Go.RowKit

/-! ### Plain law -/
theorem hasL_iff (l : List Int) (n : Int) : Ref01.hasL l n = true ↔ n ∈ l := by
  unfold Ref01.hasL
  rw [List.any_eq_true]
  exact ⟨fun ⟨x, hx, h⟩ => by rw [beq_iff_eq] at h; exact h ▸ hx, fun h => ⟨n, h, by simp⟩⟩
theorem mem_listS (s : Nat) (n : Int) : n ∈ listS s ↔ hasS s n = true := by
  unfold listS hasS inS
  rw [List.mem_map]
  constructor
  · rintro ⟨i, hi, rfl⟩
    have := (Bits.mem_list s i).1 hi
    rw [decide_eq_true (by omega)]; simpa using this.2
  · intro h
    rw [Bool.and_eq_true] at h
    have h1 := of_decide_eq_true h.1
    exact ⟨n.toNat, (Bits.mem_list s _).2 ⟨by omega, h.2⟩, by omega⟩
theorem hasS_nat (s j : Nat) (hj : j < 64) : hasS s (j : Int) = s.testBit j := by
  unfold hasS inS
  rw [decide_eq_true (by omega)]; rfl
theorem testBit_with (s : Nat) (n : Int) (j : Nat) (hj : j < 64) : (withS s n).testBit j = (s.testBit j || decide (n = (j : Int))) := by
  unfold withS inS
  by_cases h : 0 ≤ n ∧ n < 64
  · rw [if_pos (decide_eq_true h), Bits.testBit_put]
    congr 1
    exact decide_eq_decide.2 (by omega)
  · rw [if_neg (by rw [decide_eq_false h]; decide), decide_eq_false (by omega)]; simp
theorem testBit_without (s : Nat) (n : Int) (j : Nat) (hj : j < 64) : (withoutS s n).testBit j = (s.testBit j && !decide (n = (j : Int))) := by
  unfold withoutS inS
  by_cases h : 0 ≤ n ∧ n < 64
  · rw [if_pos (decide_eq_true h), Bits.testBit_del]
    congr 2
    exact decide_eq_decide.2 (by omega)
  · rw [if_neg (by rw [decide_eq_false h]; decide), decide_eq_false (by omega)]; simp
theorem testBit_ofS (l : List Int) (j : Nat) (hj : j < 64) : (ofS l).testBit j = Ref01.hasL l j := by
  have : ∀ (l : List Int) (s : Nat), (l.foldl withS s).testBit j = (s.testBit j || Ref01.hasL l j) := by
    intro l
    induction l with
    | nil => intro s; simp [Ref01.hasL]
    | cons a l ih =>
      intro s
      rw [List.foldl_cons, ih, testBit_with s a j hj, Bool.or_assoc]
      congr 1
  have h := this l 0
  rwa [Nat.zero_testBit, Bool.false_or] at h
theorem ofRef_lt (l : List Int) : Ref01.ofRef l < 18446744073709551616 := Ref01.bn_lt _ 64
theorem ofS_ref (l : List Int) : ofS l = Ref01.ofRef l :=
  Bits.ext64 (ofS_lt l) (ofRef_lt l) fun j hj => by rw [testBit_ofS l j hj, Ref01.ofRef_bit, decide_eq_true hj, Bool.true_and]
theorem with_ref (s : Nat) (n : Int) (hs : s < 18446744073709551616) : withS s n = Ref01.ofRef (n :: listS s) :=
  Bits.ext64 (withS_lt s n hs) (ofRef_lt _) fun j hj => by
    rw [testBit_with s n j hj, Ref01.ofRef_bit, decide_eq_true hj, Bool.true_and, Bool.eq_iff_iff, hasL_iff, List.mem_cons, mem_listS, hasS_nat s j hj, Bool.or_eq_true, decide_eq_true_iff]
    constructor
    · rintro (h | h)
      · exact .inr h
      · exact .inl h.symm
    · rintro (h | h)
      · exact .inr h.symm
      · exact .inl h
theorem without_ref (s : Nat) (n : Int) (hs : s < 18446744073709551616) : withoutS s n = Ref01.ofRef ((listS s).filter fun x => x != n) :=
  Bits.ext64 (withoutS_lt s n hs) (ofRef_lt _) fun j hj => by
    rw [testBit_without s n j hj, Ref01.ofRef_bit, decide_eq_true hj, Bool.true_and, Bool.eq_iff_iff, hasL_iff, List.mem_filter, mem_listS, hasS_nat s j hj, Bool.and_eq_true]
    refine and_congr Iff.rfl ?_
    rw [bne_iff_ne, Bool.not_eq_true', decide_eq_false_iff_not]
    exact not_congr eq_comm
theorem of_list (s : Nat) (hs : s < 18446744073709551616) : ofS (listS s) = s :=
  Bits.ext64 (ofS_lt _) hs fun j hj => by
    rw [testBit_ofS _ j hj, Bool.eq_iff_iff, hasL_iff, mem_listS, hasS_nat s j hj]
theorem first_list (s : Nat) (hs : s < 18446744073709551616) : (Bits.least s : Int) = if 0 < (listS s).length then (listS s).getD 0 0 else 64 := by
  by_cases h : s = 0
  · subst h
    rw [Bits.least_zero, show listS 0 = [] from by unfold listS; rw [Bits.list_zero]; rfl]; rfl
  · rw [listS_step s hs h]; simp
theorem count_list (s : Nat) : Bits.count s = (listS s).length := by unfold listS Bits.count; rw [List.length_map]
theorem within_iff (s t : Nat) (hs : s < 18446744073709551616) : withinS s t = true ↔ ∀ j, j < 64 → s.testBit j = true → t.testBit j = true := by
  unfold withinS
  rw [beq_iff_eq]
  constructor
  · intro h j _ hj
    have h1 : (s ^^^ (s &&& t)).testBit j = false := by rw [h]; exact Nat.zero_testBit j
    rw [Nat.testBit_xor, Nat.testBit_and, hj] at h1
    simpa using h1
  · intro h
    refine Nat.eq_of_testBit_eq fun j => ?_
    rw [Nat.testBit_xor, Nat.testBit_and, Nat.zero_testBit]
    by_cases hj : j < 64
    · cases hsj : s.testBit j with
      | false => simp
      | true => rw [h j hj hsj]; rfl
    · rw [Bits.high s j hs (by omega)]; rfl
theorem below_ref (n : Int) : belowS n = Ref01.ofRef (Ref01.belowL n) :=
  Bits.ext64 (belowS_lt n) (ofRef_lt _) fun j hj => by
    rw [Ref01.ofRef_bit, decide_eq_true hj, Bool.true_and]
    have h1 : Ref01.hasL (Ref01.belowL n) j = decide ((j : Int) < n) := by
      rw [Bool.eq_iff_iff, hasL_iff, decide_eq_true_iff]
      unfold Ref01.belowL
      rw [List.mem_map]
      constructor
      · rintro ⟨i, hi, h⟩
        rw [List.mem_range] at hi
        omega
      · intro h
        exact ⟨j, List.mem_range.2 (by omega), rfl⟩
    rw [h1]
    unfold belowS
    split
    · rw [show (18446744073709551615 : Nat) = 2 ^ 64 - 1 from rfl, Nat.testBit_two_pow_sub_one, decide_eq_true hj, decide_eq_true (by omega)]
    · split
      · rw [Nat.zero_testBit, decide_eq_false (by omega)]
      · rw [Nat.testBit_two_pow_sub_one]
        exact decide_eq_decide.2 (by omega)

/-! ### The walks -/
theorem speaks01 (w : World) (hT : Tab w) : Calls Tryd.prog 6 #[] w fun e w' => e = .returned (.bool true) ∧ Ch nob w w' := by
  obtain ⟨hb, hc, _⟩ := one_new w #[.int .i64 3, .int .i64 1, .int .i64 64] 3
  have o1 : (ofS [3, 1, 64] : Int) = 10 := by decide +kernel
  have o2 : listS 10 = [1, 3] := by decide +kernel
  have o3 : (Bits.count 10 : Int) = 2 := by decide +kernel
  have o4 : (Bits.least 10 : Int) = 1 := by decide +kernel
  have o5 : (belowS 2 : Int) = 3 := by decide +kernel
  have O1 := Lib.hid o1
  have O2 := Lib.hid o2
  have O3 := Lib.hid o3
  have O4 := Lib.hid o4
  have O5 := Lib.hid o5
  clear o1 o2 o3 o4 o5
  go_enter Tryd.func6, Tryd.ntmps6
  go_wp2_with fail
  generalize w.alloc _ = w1 at hb hc ⊢
  have hi : Ints w1 (.slice (some ⟨w.heap.size, 0, none⟩) 3 3) [3, 1, 64] := (OwnK.of_blk (k := .i64) (base := w.heap.size) (xs := [3, 1, 64]) hb (Nat.le_refl _) (by simp)).ints
  have hT1 := hT.keep hc
  refine (of_set _ [3, 1, 64] _ hi).mono ?_
  rintro e w2 ⟨rfl, rfl⟩
  rw [O1.out]
  go_wp2_with fail
  refine (list_set 10 _ (by decide) hT1).mono ?_
  rintro e w3 ⟨v, rfl, ho, hc3⟩
  rw [O2.out] at ho
  have hv := Lib.hid ho.ints
  have hc4 := hc.seq hc3
  have hT3 := hT1.keep hc3
  obtain ⟨hb2, hc5, _⟩ := one_new w3 #[.int .i64 1, .int .i64 3] 3
  have hv2 := Lib.hid (hv.out.keep hc5)
  have hT5 := hT3.keep hc5
  have hc6 := hc4.seq hc5
  clear ho hv hc hc3 hc4 hT hT1 hT3 hb hi
  go_wp2_with fail
  generalize w3.alloc _ = w4 at hb2 hv2 hT5 hc6 ⊢
  have hi2 : Ints w4 (.slice (some ⟨w3.heap.size, 0, none⟩) 2 2) [1, 3] := (OwnK.of_blk (k := .i64) (base := w3.heap.size) (xs := [1, 3]) hb2 (Nat.le_refl _) (by simp)).ints
  refine (Ref01.same_ref01 _ _ [1, 3] [1, 3] _ hv2.out hi2).mono ?_
  rintro e w5 ⟨rfl, hd⟩
  have hT6 := hT5.keep hd.ch
  have hc7 := hc6.seq hd.ch
  clear hb2 hv2 hT5 hc5 hc6 hi2 hd
  have hdd : decide (([1, 3] : List Int) = [1, 3]) = true := by decide
  go_wp2_with fail
  refine (count_set 10 _ (by decide)).mono ?_
  rintro e w6 ⟨rfl, rfl⟩
  rw [O3.out]
  go_wp2_with fail
  refine (first_set 10 _ (by decide) hT6).mono ?_
  rintro e w6 ⟨rfl, rfl⟩
  rw [O4.out]
  go_wp2_with fail
  refine (below_set 2 _).mono ?_
  rintro e w6 ⟨rfl, rfl⟩
  rw [O5.out]
  go_wp2_with fail
  go_ret
  exact ⟨rfl, hc7⟩

theorem law_back (w : World) (hT : Tab w) (s : Int) (hs : 0 ≤ s ∧ s ≤ 18446744073709551615) :
    Calls Tryd.prog 5 #[.int .u64 s] w fun e w' => e = .returned (.bool true) ∧ Below w.heap.size w w' := by
  obtain ⟨n, rfl⟩ := Int.eq_ofNat_of_zero_le hs.1
  have hn : n < 18446744073709551616 := by omega
  clear hs
  have hcl : Bits.count n ≤ 64 := Bits.list_len n
  have HOL := Lib.hid (of_list n hn)
  go_enter Tryd.func5, Tryd.ntmps5
  go_wp2_with fail
  refine (speaks01 _ hT).mono ?_
  rintro e w1 ⟨rfl, hc⟩
  have hT1 := hT.keep hc
  clear hT
  go_wp2_with fail
  refine (list_set n _ hn hT1).mono ?_
  rintro e w2 ⟨v, rfl, ho, hc2⟩
  have hv := Lib.hid ho.ints
  have hT2 := hT1.keep hc2
  have hc3 := hc.seq hc2
  clear ho hc hc2 hT1
  go_wp2_with fail
  refine (of_set _ (listS n) _ hv.out).mono ?_
  rintro e w3 ⟨rfl, rfl⟩
  rw [HOL.out]
  have hq : ((n : Int) != (n : Int)) = false := by simp
  go_wp2_with fail
  refine (count_set n _ hn).mono ?_
  rintro e w3 ⟨rfl, rfl⟩
  go_wp2_with fail
  go_loop [3, 17] (fun x q => ∃ (k t : Nat), q = .int .i64 k ∧ k ≤ Bits.count n ∧ x = .int .u64 t ∧ t < 18446744073709551616 ∧ Hid (Bits.count t + k = Bits.count n)) (fun _ q => Bits.count n - (intOf q).toNat)
  case atStart => exact ⟨0, n, rfl, by omega, rfl, hn, Lib.hid rfl⟩
  case round =>
    obtain ⟨k, t, rfl, hk, rfl, ht, hct⟩ := hrel
    by_cases hlt : k < Bits.count n
    · have h0 : t ≠ 0 := by
        rintro rfl
        have := hct.out
        rw [show Bits.count 0 = 0 from by decide] at this
        omega
      obtain ⟨h1, h2, _⟩ := Bits.least_spec t ht h0
      have hh := Lib.hid (show hasS t (Bits.least t : Int) = true from by rw [hasS_nat _ _ h1]; exact h2)
      have hst := listS_step t ht h0
      have hcc := Lib.hid (show Bits.count (withoutS t (Bits.least t : Int)) + (k + 1) = Bits.count n from by
        have := hct.out
        rw [count_list, hst, List.length_cons] at this
        rw [count_list]; omega)
      have hwl := withoutS_lt t (Bits.least t : Int) ht
      have FF := Lib.hid (fun w hw => first_set t w ht hw)
      generalize Bits.least t = j at h1 hh hcc hwl FF
      clear h0 h2 hst
      go_wp2_with fail
      refine (FF.out _ hT2).mono ?_
      rintro e w4 ⟨rfl, rfl⟩
      go_wp2_with fail
      refine (has_set _ _ _ ht).mono ?_
      rintro e w4 ⟨rfl, rfl⟩
      rw [hh.out]
      go_wp2_with fail
      refine (without_set _ _ _ ht).mono ?_
      rintro e w4 ⟨rfl, rfl⟩
      go_wp2_with fail
      go_round
      case rel => exact ⟨k + 1, _, by go_num, by omega, rfl, hwl, hcc⟩
      case measure => simp [intOf]; omega
    · have h0 : t = 0 := by
        have h1 := hct.out
        have h2 : Bits.list t = [] := List.eq_nil_of_length_eq_zero (show Bits.count t = 0 by omega)
        exact (Bits.list_nil t ht).1 h2
      have hb : ((t : Int) == 0) = true := by simp [h0]
      clear h0
      go_wp2_with fail
      go_ret
      exact ⟨rfl, hc3.below⟩

def wTo (l m : List Int) (k : Nat) : Bool := (l.take k).all fun x => !(inS x && !Ref01.hasL m x)
theorem wTo_succ (l m : List Int) (k : Nat) (h : k < l.length) : wTo l m (k + 1) = (wTo l m k && !(inS (l.getD k 0) && !Ref01.hasL m (l.getD k 0))) := by
  unfold wTo
  rw [List.take_add_one, List.all_append, List.getElem?_eq_getElem h]
  simp [List.getD_eq_getElem?_getD, h]
theorem wTo_within (l m : List Int) : wTo l m l.length = withinS (ofS l) (ofS m) := by
  unfold wTo
  rw [List.take_length, Bool.eq_iff_iff, List.all_eq_true, within_iff _ _ (ofS_lt l)]
  constructor
  · intro h j hj hl
    rw [testBit_ofS _ j hj] at hl ⊢
    have := h _ ((hasL_iff l j).1 hl)
    unfold inS at this
    rw [decide_eq_true (by omega)] at this
    simpa using this
  · intro h x hx
    cases hi : inS x with
    | false => simp
    | true =>
      have hb := of_decide_eq_true hi
      obtain ⟨j, rfl⟩ := Int.eq_ofNat_of_zero_le hb.1
      have hj : j < 64 := by omega
      have := h j hj (by rw [testBit_ofS _ j hj]; exact (hasL_iff l _).2 hx)
      rw [testBit_ofS _ j hj] at this
      rw [this]; rfl
theorem within_or (s t : Nat) (hs : s < 18446744073709551616) : withinS s (s ||| t) = true := by
  rw [within_iff _ _ hs]
  intro j _ h
  rw [Nat.testBit_or, h]; rfl
theorem law_lists (w : World) (hT : Tab w) (vl : Value) (l : List Int) (hil : Ints w vl l) (vm : Value) (m : List Int) (him : Ints w vm m) (n : Int) (hn : -9223372036854775808 ≤ n ∧ n ≤ 9223372036854775807) :
    Calls Tryd.prog 4 #[vl, vm, .int .i64 n] w fun e w' => e = .returned (.bool true) ∧ Below w.heap.size w w' := by
  obtain ⟨A, c, rfl⟩ := hil.shape
  obtain ⟨B, d, rfl⟩ := him.shape
  have hll := hil.len
  have hml := him.len
  go_enter Tryd.func4, Tryd.ntmps4
  go_wp2_with fail
  refine (speaks01 _ hT).mono ?_
  rintro e w1 ⟨rfl, hc⟩
  replace hil := hil.keep hc
  replace him := him.keep hc
  clear hT hn
  by_cases h1 : 200 < l.length
  · have h1' : (200 : Int) < (l.length : Int) := by omega
    go_wp2_with fail
    go_ret
    exact ⟨rfl, hc.below⟩
  · by_cases h2 : 200 < m.length
    · have h1' : ¬ (200 : Int) < (l.length : Int) := by omega
      have h2' : (200 : Int) < (m.length : Int) := by omega
      go_wp2_with fail
      go_ret
      exact ⟨rfl, hc.below⟩
    · have HIL := Lib.hid hil
      have HIM := Lib.hid him
      have HW := Lib.hid (wTo_within l m)
      have HO := Lib.hid (ofS_ref l)
      have hla := ofS_lt l
      have hlb := ofS_lt m
      have HOR := Lib.hid (show bits .or .u64 (ofS l : Nat) (ofS m : Nat) = ((ofS l ||| ofS m : Nat) : Int) from Bits.or_u64 _ _ hla hlb)
      have horl : ofS l ||| ofS m < 18446744073709551616 := Nat.or_lt_two_pow (n := 64) hla hlb
      have HWO := Lib.hid (within_or (ofS l) (ofS m) hla)
      have HBR := Lib.hid (below_ref n)
      have OS := Lib.hid (fun w h => of_set (.slice A l.length c) l w h)
      have OS2 := Lib.hid (fun w h => of_set (.slice B m.length d) m w h)
      generalize ofS l = a at *
      generalize ofS m = b at *
      clear hil him
      go_wp2_with fail
      refine (OS.out _ HIL.out).mono ?_
      rintro e w2 ⟨rfl, rfl⟩
      go_wp2_with fail
      refine (OS2.out _ HIM.out).mono ?_
      rintro e w2 ⟨rfl, rfl⟩
      go_wp2_with fail
      go_loop [9, 28] (fun x q => ∃ k : Nat, q = .int .i64 k ∧ k ≤ l.length ∧ x = .bool (wTo l m k)) (fun _ q => l.length - (intOf q).toNat)
      case atStart => exact ⟨0, rfl, by omega, rfl⟩
      case round =>
        obtain ⟨k, rfl, hk, rfl⟩ := hrel
        by_cases hlt : k < l.length
        · obtain ⟨_, _, hcells⟩ := HIL.out.at
          obtain ⟨ad, rfl, hx⟩ := hcells k hlt
          have HS := Lib.hid (wTo_succ l m k hlt)
          clear hcells
          generalize l.getD k 0 = z at hx HS
          by_cases hz0 : z < 0
          · have hn2 := Lib.hid (show wTo l m (k + 1) = wTo l m k from by rw [HS.out]; unfold inS; rw [decide_eq_false (by omega)]; simp)
            go_wp2_with fail
            go_round
            case rel => exact ⟨k + 1, by go_num, by omega, by rw [hn2.out]⟩
            case measure => simp [intOf]; omega
          · by_cases hz1 : z < 64
            · cases hh : Ref01.hasL m z
              · have hn2 := Lib.hid (show wTo l m (k + 1) = false from by rw [HS.out, hh]; unfold inS; rw [decide_eq_true (by omega)]; simp)
                go_wp2_with fail
                refine (Ref01.has_ref01 _ m _ _ HIM.out).mono ?_
                rintro e w2 ⟨rfl, rfl⟩
                rw [hh]
                go_wp2_with fail
                go_round
                case rel => exact ⟨k + 1, by go_num, by omega, by rw [hn2.out]⟩
                case measure => simp [intOf]; omega
              · have hn2 := Lib.hid (show wTo l m (k + 1) = wTo l m k from by rw [HS.out, hh]; simp)
                go_wp2_with fail
                refine (Ref01.has_ref01 _ m _ _ HIM.out).mono ?_
                rintro e w2 ⟨rfl, rfl⟩
                rw [hh]
                go_wp2_with fail
                go_round
                case rel => exact ⟨k + 1, by go_num, by omega, by rw [hn2.out]⟩
                case measure => simp [intOf]; omega
            · have hn2 := Lib.hid (show wTo l m (k + 1) = wTo l m k from by rw [HS.out]; unfold inS; rw [decide_eq_false (by omega)]; simp)
              go_wp2_with fail
              go_round
              case rel => exact ⟨k + 1, by go_num, by omega, by rw [hn2.out]⟩
              case measure => simp [intOf]; omega
        · obtain rfl : k = l.length := by omega
          rw [HW.out]
          go_wp2_with fail
          refine (Ref01.of_ref01 _ l _ HIL.out).mono ?_
          rintro e w2 ⟨rfl, rfl⟩
          rw [← HO.out]
          go_wp2_with fail
          refine (within_set a b _ hla hlb).mono ?_
          rintro e w2 ⟨rfl, rfl⟩
          go_wp2_with fail
          refine (below_set n _).mono ?_
          rintro e w2 ⟨rfl, rfl⟩
          go_wp2_with fail
          refine (Ref01.below_ref01 n _).mono ?_
          rintro e w2 ⟨v, rfl, ho, hc2⟩
          have hv := Lib.hid ho.ints
          have hc3 := hc.seq hc2
          clear ho hc hc2
          go_wp2_with fail
          refine (Ref01.of_ref01 _ _ _ hv.out).mono ?_
          rintro e w3 ⟨rfl, rfl⟩
          rw [← HBR.out]
          go_wp2_with fail
          rw [HOR.out]
          refine (within_set _ _ _ hla horl).mono ?_
          rintro e w3 ⟨rfl, rfl⟩
          rw [HWO.out]
          go_wp2_with fail
          go_ret
          exact ⟨ret_bool (by simp), hc3.below⟩

theorem take_snocS (l : List Int) (p : Int → Bool) (k : Nat) (h : k < l.length) : (l.take (k + 1)).filter p = (l.take k).filter p ++ if p (l.getD k 0) then [l.getD k 0] else [] := filter_take_succ l p k h
set_option maxHeartbeats 2000000 in
theorem law_parts (w : World) (hT : Tab w) (s : Int) (hs : 0 ≤ s ∧ s ≤ 18446744073709551615) (n : Int) (hn : -9223372036854775808 ≤ n ∧ n ≤ 9223372036854775807) :
    Calls Tryd.prog 3 #[.int .u64 s, .int .i64 n] w fun e w' => e = .returned (.bool true) ∧ Below w.heap.size w w' := by
  obtain ⟨x, rfl⟩ := Int.eq_ofNat_of_zero_le hs.1
  have hx : x < 18446744073709551616 := by omega
  clear hs hn
  have hlen := listS_len x
  have HF := Lib.hid (first_list x hx)
  have HC := Lib.hid (count_list x)
  have HW := Lib.hid (with_ref x n hx)
  have HO := Lib.hid (without_ref x n hx)
  go_enter Tryd.func3, Tryd.ntmps3
  go_wp2_with fail
  refine (speaks01 _ hT).mono ?_
  rintro e w1 ⟨rfl, hc⟩
  have hT1 := hT.keep hc
  clear hT
  go_wp2_with fail
  refine (Ref01.list_ref01 x _ hx).mono ?_
  rintro e w2 ⟨v, rfl, ho, hc2⟩
  have hT2 := hT1.keep hc2
  have hc3 := hc.seq hc2
  clear hc hc2 hT1
  obtain ⟨A, c, rfl⟩ := ho.ints.shape
  have hcells := ho.ints.at.2.2
  have HO2 := Lib.hid ho
  clear ho
  by_cases h0 : 0 < (listS x).length
  · obtain ⟨ad, rfl, hcell⟩ := hcells 0 h0
    have hl0 : (Bits.least x : Int) = (listS x).getD 0 0 := by rw [HF.out, if_pos h0]
    rw [← hl0, show ad.add 0 = ad from rfl] at hcell
    have hq : ((Bits.least x : Int) != (Bits.least x : Int)) = false := by simp
    have h0' : (0 : Int) < ((listS x).length : Int) := by omega
    clear hl0 hcells
    go_wp2_with fail
    refine (has_set _ _ _ hx).mono ?_
    rintro e w3 ⟨rfl, rfl⟩
    go_wp2_with fail
    refine (Ref01.bit_ref01 _ _ _ hx).mono ?_
    rintro e w3 ⟨rfl, rfl⟩
    have hq1 : (hasS x n != hasS x n) = false := by simp
    go_wp2_with fail
    refine (count_set _ _ hx).mono ?_
    rintro e w3 ⟨rfl, rfl⟩
    have hq2 : ((Bits.count x : Int) != ((listS x).length : Int)) = false := by rw [HC.out]; simp
    go_wp2_with fail
    refine (first_set _ _ hx hT2).mono ?_
    rintro e w3 ⟨rfl, rfl⟩
    go_wp2_with fail
    refine (list_set _ _ hx hT2).mono ?_
    rintro e w3 ⟨v3, rfl, ho3, hcc3⟩
    have hv3 := Lib.hid ho3.ints
    have HO3 := Lib.hid (HO2.out.keep hcc3)
    have hc4 := hc3.seq hcc3
    clear ho3 hcc3 hc3
    go_wp2_with fail
    refine (Ref01.same_ref01 _ _ (listS x) (listS x) _ hv3.out HO3.out.ints).mono ?_
    rintro e w4 ⟨rfl, hd⟩
    have hq3 : decide (listS x = listS x) = true := decide_eq_true rfl
    have HO4 := Lib.hid (HO3.out.keep hd.ch)
    have hc5 := hc4.seq hd.ch
    clear HO3 hd hc4 hv3
    have hsz4 : w4.heap.size = w4.heap.size := rfl
    obtain ⟨hnb, hna, hns⟩ := one_new w4 #[.int .i64 n] 3
    have ho5 : Own (w4.alloc (.cells #[.int .i64 n] 3)) w4.heap.size 3 (.slice (some ⟨w4.heap.size, 0, none⟩) 1 1) [n] := OwnK.of_blk (xs := [n]) hnb (Nat.le_refl _) (by simp)
    have HO5 := Lib.hid ho5
    have HO6 := Lib.hid (HO4.out.alloc (.cells #[.int .i64 n] 3))
    have hc6 := Lib.hid (hc5.seq hna)
    have hbelow : ∀ b, (Value.slice (some ad) (listS x).length c).ownBlock = some b → b < w4.heap.size := fun b hb => (HO4.out.ge b hb).2
    have HBL := Lib.hid hbelow
    have hge6 := hc6.out.size
    have hge5 := hc5.size
    clear ho5 hnb hna hns hbelow HO4 hsz4
    go_wp2_with (at_builtin; refine wpList_append_ints rfl (.tmp 51) (.tmp 52) 25 3 rfl .i64 8 elem_int (by decide) w4.heap.size _ [n] rfl HO5.out w1.heap.size 3 _ (listS x) rfl HO6.out (by simp) (by omega) (by simp) ?_; intro v5 w5 hown5 hg5; have hc7 := hc6.out.grown_own hg5 (fun b hb => by have := (HO5.out.ge b hb).1; omega); have HO7 := Lib.hid (HO6.out.grown hg5 (fun b hb he => by have h1 := HBL.out b hb; have h2 := (HO5.out.ge b he).1; omega)))
    have HW5 := Lib.hid hown5.ints
    have HMK := Lib.hid (OwnK.made .i64 w5 w5.heap.size 3 (Nat.le_refl _))
    have hcm := (Ch.refl nob w5).alloc (.cells #[] 3)
    have hge7 := hc7.size
    generalize w5.alloc _ = w6 at HMK hcm ⊢
    clear hown5 hg5 HO5 HO6 HBL hc5 hge5 hc6 hge6
    go_loopw [9, 57] (fun o q wr => ∃ k : Nat, q = .int .i64 k ∧ k ≤ (listS x).length ∧ Own wr w5.heap.size 3 o (((listS x).take k).filter fun y => y != n) ∧ Ch nob w5 wr) (fun _ q _ => (listS x).length - (intOf q).toNat)
    case atStart => exact ⟨0, rfl, by omega, HMK.out, hcm⟩
    case round =>
      clear HMK hcm
      obtain ⟨k, rfl, hk, ho, hcr⟩ := hrel
      by_cases hlt : k < (listS x).length
      · obtain ⟨_, _, hcells2⟩ := (HO7.out.keep hcr).ints.at
        obtain ⟨bd, hbd, hxx⟩ := hcells2 k hlt
        obtain rfl : ad = bd := by simpa using hbd
        have HFT := Lib.hid (take_snocS (listS x) (fun y => y != n) k hlt)
        clear hcells2
        generalize (listS x).getD k 0 = z at hxx HFT
        have hle : (((listS x).take k).filter fun y => y != n).length ≤ 64 := Nat.le_trans (List.length_filter_le _ _) (Nat.le_trans (List.length_take_le _ _) (by omega))
        by_cases hz : z = n
        · have hbz : (z != n) = false := by simp [hz]
          have ho2 : Own wr w5.heap.size 3 u9 (((listS x).take (k + 1)).filter fun y => y != n) := by rw [HFT.out, hbz]; simpa using ho
          clear hz ho
          go_wp2_with fail
          go_roundw
          case rel => exact ⟨k + 1, by go_num, by omega, ho2, hcr⟩
          case measure => simp [intOf]; omega
        · have hbz : (z != n) = true := by simp [hz]
          have HBZ := Lib.hid hbz
          have hof := Lib.hid (ho.alloc (.cells #[.int .i64 z] 3))
          have hc2 := Lib.hid (hcr.alloc (.cells #[.int .i64 z] 3))
          have hnb := Lib.hid (Blk.new wr #[.int .i64 z] 3)
          have hge := hc2.out.size
          clear hz ho hcr
          go_wp2_with (at_builtin; refine wpList_append_int rfl (.tmp 64) (.tmp 66) 25 3 rfl .i64 8 elem_int (by decide) w5.heap.size u9 _ rfl hof.out wr.heap.size z 3 rfl hnb.out (by omega) (by omega) ?_; intro v' w' hown hg; have hc4 := hc2.out.grown_own hg (fun b hb => (hof.out.ge b hb).1); have hown2 : Own w' w5.heap.size 3 v' (((listS x).take (k + 1)).filter fun y => y != n) := (by rw [HFT.out, HBZ.out]; exact hown); clear hown hg)
          go_roundw
          case rel => exact ⟨k + 1, by go_num, by omega, hown2, hc4⟩
          case measure => simp [intOf]; omega
      · have hwo := Lib.hid (show Ints wr u9 ((listS x).filter fun y => y != n) from by rw [List.take_of_length_le (by omega)] at ho; exact ho.ints)
        have hwi := Lib.hid (HW5.out.keep hcr)
        have hc8 := hc7.seq hcr
        clear ho hcr
        go_wp2_with fail
        refine (with_set _ _ _ hx).mono ?_
        rintro e w7 ⟨rfl, rfl⟩
        go_wp2_with fail
        refine (Ref01.of_ref01 _ ([n] ++ listS x) _ hwi.out).mono ?_
        rintro e w7 ⟨rfl, rfl⟩
        rw [show [n] ++ listS x = n :: listS x from rfl, ← HW.out]
        go_wp2_with fail
        refine (without_set _ _ _ hx).mono ?_
        rintro e w7 ⟨rfl, rfl⟩
        go_wp2_with fail
        refine (Ref01.of_ref01 _ _ _ hwo.out).mono ?_
        rintro e w7 ⟨rfl, rfl⟩
        rw [← HO.out]
        go_wp2_with fail
        go_ret
        exact ⟨ret_bool (by simp), hc8.below⟩
  · have hl0 : (Bits.least x : Int) = 64 := by rw [HF.out, if_neg h0]
    have hq : ((Bits.least x : Int) != 64) = false := by simp [hl0]
    clear hl0 hcells
    go_wp2_with fail
    refine (has_set _ _ _ hx).mono ?_
    rintro e w3 ⟨rfl, rfl⟩
    go_wp2_with fail
    refine (Ref01.bit_ref01 _ _ _ hx).mono ?_
    rintro e w3 ⟨rfl, rfl⟩
    have hq1 : (hasS x n != hasS x n) = false := by simp
    go_wp2_with fail
    refine (count_set _ _ hx).mono ?_
    rintro e w3 ⟨rfl, rfl⟩
    have hq2 : ((Bits.count x : Int) != ((listS x).length : Int)) = false := by rw [HC.out]; simp
    go_wp2_with fail
    refine (first_set _ _ hx hT2).mono ?_
    rintro e w3 ⟨rfl, rfl⟩
    go_wp2_with fail
    refine (list_set _ _ hx hT2).mono ?_
    rintro e w3 ⟨v3, rfl, ho3, hcc3⟩
    have hv3 := Lib.hid ho3.ints
    have HO3 := Lib.hid (HO2.out.keep hcc3)
    have hc4 := hc3.seq hcc3
    clear ho3 hcc3 hc3
    go_wp2_with fail
    refine (Ref01.same_ref01 _ _ (listS x) (listS x) _ hv3.out HO3.out.ints).mono ?_
    rintro e w4 ⟨rfl, hd⟩
    have hq3 : decide (listS x = listS x) = true := decide_eq_true rfl
    have HO4 := Lib.hid (HO3.out.keep hd.ch)
    have hc5 := hc4.seq hd.ch
    clear HO3 hd hc4 hv3
    have hsz4 : w4.heap.size = w4.heap.size := rfl
    obtain ⟨hnb, hna, hns⟩ := one_new w4 #[.int .i64 n] 3
    have ho5 : Own (w4.alloc (.cells #[.int .i64 n] 3)) w4.heap.size 3 (.slice (some ⟨w4.heap.size, 0, none⟩) 1 1) [n] := OwnK.of_blk (xs := [n]) hnb (Nat.le_refl _) (by simp)
    have HO5 := Lib.hid ho5
    have HO6 := Lib.hid (HO4.out.alloc (.cells #[.int .i64 n] 3))
    have hc6 := Lib.hid (hc5.seq hna)
    have hbelow : ∀ b, (Value.slice A (listS x).length c).ownBlock = some b → b < w4.heap.size := fun b hb => (HO4.out.ge b hb).2
    have HBL := Lib.hid hbelow
    have hge6 := hc6.out.size
    have hge5 := hc5.size
    clear ho5 hnb hna hns hbelow HO4 hsz4
    go_wp2_with (at_builtin; refine wpList_append_ints rfl (.tmp 51) (.tmp 52) 25 3 rfl .i64 8 elem_int (by decide) w4.heap.size _ [n] rfl HO5.out w1.heap.size 3 _ (listS x) rfl HO6.out (by simp) (by omega) (by simp) ?_; intro v5 w5 hown5 hg5; have hc7 := hc6.out.grown_own hg5 (fun b hb => by have := (HO5.out.ge b hb).1; omega); have HO7 := Lib.hid (HO6.out.grown hg5 (fun b hb he => by have h1 := HBL.out b hb; have h2 := (HO5.out.ge b he).1; omega)))
    have HW5 := Lib.hid hown5.ints
    have HMK := Lib.hid (OwnK.made .i64 w5 w5.heap.size 3 (Nat.le_refl _))
    have hcm := (Ch.refl nob w5).alloc (.cells #[] 3)
    have hge7 := hc7.size
    generalize w5.alloc _ = w6 at HMK hcm ⊢
    clear hown5 hg5 HO5 HO6 HBL hc5 hge5 hc6 hge6
    go_loopw [9, 57] (fun o q wr => ∃ k : Nat, q = .int .i64 k ∧ k ≤ (listS x).length ∧ Own wr w5.heap.size 3 o (((listS x).take k).filter fun y => y != n) ∧ Ch nob w5 wr) (fun _ q _ => (listS x).length - (intOf q).toNat)
    case atStart => exact ⟨0, rfl, by omega, HMK.out, hcm⟩
    case round =>
      clear HMK hcm
      obtain ⟨k, rfl, hk, ho, hcr⟩ := hrel
      by_cases hlt : k < (listS x).length
      · exact absurd hlt (by omega)
      · have hwo := Lib.hid (show Ints wr u9 ((listS x).filter fun y => y != n) from by rw [List.take_of_length_le (by omega)] at ho; exact ho.ints)
        have hwi := Lib.hid (HW5.out.keep hcr)
        have hc8 := hc7.seq hcr
        clear ho hcr
        go_wp2_with fail
        refine (with_set _ _ _ hx).mono ?_
        rintro e w7 ⟨rfl, rfl⟩
        go_wp2_with fail
        refine (Ref01.of_ref01 _ ([n] ++ listS x) _ hwi.out).mono ?_
        rintro e w7 ⟨rfl, rfl⟩
        rw [show [n] ++ listS x = n :: listS x from rfl, ← HW.out]
        go_wp2_with fail
        refine (without_set _ _ _ hx).mono ?_
        rintro e w7 ⟨rfl, rfl⟩
        go_wp2_with fail
        refine (Ref01.of_ref01 _ _ _ hwo.out).mono ?_
        rintro e w7 ⟨rfl, rfl⟩
        rw [← HO.out]
        go_wp2_with fail
        go_ret
        exact ⟨ret_bool (by simp), hc8.below⟩
end Go.Proofs.YtkpkdacifbolkaaDoor
