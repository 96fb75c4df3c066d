/- Texts of this claim, merged: SetPure Pop Bits Set Rel Rel2 Rel3 Rel4 RelPure Pair Pair2 Pair3 PairPure RelBits ChnRel LstP DocP RowP Ref11 Ref11b OrdA. -/
import Derived.Test.YtlhfpnkfapghoaaDoorPk0
import Derived.Test.YtlhfpnkfapghoaaDoorPk3
import Derived.Test.YtlhfpnkfapghoaaDoorPk4
import Derived.StillTailTactics
section
/- Plain law: sets of numbers from 0 to 63 as bits of one number: with, without, the least one, how many, all. No condition. -/
set_option linter.unusedVariables false
set_option linter.unusedSimpArgs false
namespace Go.Proofs.YtlhfpnkfapghoaaDoor
open Go.RowKit
namespace Bits

theorem wrap_u64 (n : Int) (h0 : 0 ≤ n) (h1 : n < 2 ^ 64) : IntKind.u64.wrap n = n := by
  simp [IntKind.wrap, IntKind.bits, IntKind.signed]; omega
theorem and_u64 (a b : Nat) (ha : a < 2 ^ 64) (hb : b < 2 ^ 64) : bits .and .u64 a b = ((a &&& b : Nat) : Int) := (bits_nat .u64 64 (by decide) wrap_u64 a b ha hb).1
theorem or_u64 (a b : Nat) (ha : a < 2 ^ 64) (hb : b < 2 ^ 64) : bits .or .u64 a b = ((a ||| b : Nat) : Int) := (bits_nat .u64 64 (by decide) wrap_u64 a b ha hb).2
theorem andNot_u64 (a b : Nat) (ha : a < 2 ^ 64) (hb : b < 2 ^ 64) : bits .andNot .u64 a b = ((a ^^^ (a &&& b) : Nat) : Int) := by
  have h : ∀ x y : BitVec 64, x &&& ~~~y = x ^^^ (x &&& y) := by
    intro x y
    ext i hi
    simp
    cases x[i] <;> cases y[i] <;> rfl
  have h2 : bits .andNot .u64 a b = IntKind.u64.wrap ((BitVec.ofInt 64 (a : Int) &&& ~~~(BitVec.ofInt 64 (b : Int))).toNat : Int) := rfl
  rw [h2, h, BitVec.ofInt_natCast, BitVec.ofInt_natCast, BitVec.toNat_xor, BitVec.toNat_and, BitVec.toNat_ofNat, BitVec.toNat_ofNat, Nat.mod_eq_of_lt ha, Nat.mod_eq_of_lt hb]
  refine wrap_u64 _ (by omega) ?_
  have : a ^^^ (a &&& b) < 2 ^ 64 := Nat.xor_lt_two_pow ha (Nat.lt_of_le_of_lt Nat.and_le_left ha)
  omega

/-- With, without a number. -/
def put (s n : Nat) : Nat := s ||| 2 ^ n
def del (s n : Nat) : Nat := s ^^^ (s &&& 2 ^ n)
theorem put_lt (s n : Nat) (hs : s < 2 ^ 64) (hn : n < 64) : put s n < 2 ^ 64 := Nat.or_lt_two_pow hs (Nat.pow_lt_pow_right (by decide) hn)
theorem del_lt (s n : Nat) (hs : s < 2 ^ 64) : del s n < 2 ^ 64 := Nat.xor_lt_two_pow hs (Nat.lt_of_le_of_lt Nat.and_le_left hs)
theorem testBit_put (s n i : Nat) : (put s n).testBit i = (s.testBit i || decide (n = i)) := by
  unfold put; rw [Nat.testBit_or, Nat.testBit_two_pow]
theorem testBit_del (s n i : Nat) : (del s n).testBit i = (s.testBit i && !decide (n = i)) := by
  unfold del; rw [Nat.testBit_xor, Nat.testBit_and, Nat.testBit_two_pow]
  cases s.testBit i <;> cases decide (n = i) <;> rfl
theorem bit_div (s n : Nat) : (s / 2 ^ n % 2 = 1) ↔ s.testBit n = true := by
  rw [Nat.testBit_eq_decide_div_mod_eq]; simp
theorem high (s i : Nat) (hs : s < 2 ^ 64) (hi : 64 ≤ i) : s.testBit i = false :=
  Nat.testBit_lt_two_pow (Nat.lt_of_lt_of_le hs (Nat.pow_le_pow_right (by decide) hi))
theorem ext64 {s t : Nat} (hs : s < 2 ^ 64) (ht : t < 2 ^ 64) (h : ∀ i, i < 64 → s.testBit i = t.testBit i) : s = t := by
  refine Nat.eq_of_testBit_eq fun i => ?_
  by_cases hi : i < 64
  · exact h i hi
  · rw [high s i hs (by omega), high t i ht (by omega)]

theorem and_halves (a b : Nat) : a &&& b = 2 * (a / 2 &&& b / 2) + if a % 2 = 1 ∧ b % 2 = 1 then 1 else 0 := by
  have h1 := @Nat.and_div_two a b
  have h2 := @Nat.and_mod_two_eq_one a b
  split
  · rename_i h
    have := h2.2 h
    omega
  · rename_i h
    have : (a &&& b) % 2 = 0 := by
      rcases Nat.mod_two_eq_zero_or_one (a &&& b) with h3 | h3
      · exact h3
      · exact absurd (h2.1 h3) h
    omega
theorem and_compl (n a : Nat) (ha : a < 2 ^ n) : a &&& (2 ^ n - (a + 1)) = 0 := by
  refine Nat.eq_of_testBit_eq fun i => ?_
  rw [Nat.testBit_and, Nat.testBit_two_pow_sub_succ ha, Nat.zero_testBit]
  cases a.testBit i <;> simp
/-- The least one, by what Go's library does: 'x & -x' is a power of two. -/
theorem low (n : Nat) : ∀ x, x < 2 ^ n → x ≠ 0 → ∃ k, k < n ∧ x &&& (2 ^ n - x) = 2 ^ k ∧ x.testBit k = true ∧ ∀ j, j < k → x.testBit j = false := by
  induction n with
  | zero => intro x hx h; omega
  | succ n ih =>
    intro x hx h
    rw [Nat.pow_succ] at hx
    rcases Nat.mod_two_eq_zero_or_one x with he | ho
    · obtain ⟨k, h1, h2, h3, h4⟩ := ih (x / 2) (by omega) (by omega)
      refine ⟨k + 1, by omega, ?_, ?_, ?_⟩
      · rw [and_halves, show (2 ^ (n + 1) - x) / 2 = 2 ^ n - x / 2 from by rw [Nat.pow_succ]; omega, h2, if_neg (by omega), Nat.pow_succ]; omega
      · rw [Nat.testBit_succ]; exact h3
      · intro j hj
        cases j with
        | zero => simp [Nat.testBit_zero, he]
        | succ j => rw [Nat.testBit_succ]; exact h4 j (by omega)
    · refine ⟨0, by omega, ?_, by simp [Nat.testBit_zero, ho], fun j hj => by omega⟩
      rw [and_halves, show (2 ^ (n + 1) - x) / 2 = 2 ^ n - (x / 2 + 1) from by rw [Nat.pow_succ]; omega, and_compl n (x / 2) (by omega), if_pos ⟨ho, by rw [Nat.pow_succ]; omega⟩]

/-- The table of Go's library, and where it is looked into. -/
def table : List Int := [0, 1, 56, 2, 57, 49, 28, 3, 61, 58, 42, 50, 38, 29, 17, 4, 62, 47, 59, 36, 45, 43, 51, 22, 53, 39, 33, 30, 24, 18, 12, 5, 63, 55, 48, 27, 60, 41, 37, 16, 46, 35, 44, 21, 52, 32, 23, 11, 54, 26, 40, 15, 34, 20, 31, 10, 25, 14, 19, 9, 13, 8, 7, 6]
theorem table_at (k : Nat) (hk : k < 64) : table.getD (2 ^ k * 285870213051353865 % 18446744073709551616 / 288230376151711744) 0 = (k : Int) := by
  have : ∀ k : Fin 64, table.getD (2 ^ k.val * 285870213051353865 % 18446744073709551616 / 288230376151711744) 0 = (k.val : Int) := by decide +kernel
  exact this ⟨k, hk⟩

/-- The least number of a set; 64: there is none. -/
def least (s : Nat) : Nat := ((List.range 64).find? fun i => s.testBit i).getD 64
theorem least_zero : least 0 = 64 := by decide
theorem least_at (s k : Nat) (hk : k < 64) (h : s.testBit k = true) (hn : ∀ j, j < k → s.testBit j = false) : least s = k := by
  unfold least
  rw [(List.find?_range_eq_some (p := fun i => s.testBit i)).2 ⟨h, by simp [hk], fun j hj => by simp [hn j hj]⟩]
  rfl
theorem least_spec (s : Nat) (hs : s < 2 ^ 64) (h : s ≠ 0) : least s < 64 ∧ s.testBit (least s) = true ∧ ∀ j, j < least s → s.testBit j = false := by
  obtain ⟨k, h1, _, h3, h4⟩ := low 64 s hs h
  rw [least_at s k h1 h3 h4]
  exact ⟨h1, h3, h4⟩
theorem least_low (s : Nat) (hs : s < 2 ^ 64) (h : s ≠ 0) : s &&& (18446744073709551616 - s) = 2 ^ least s := by
  obtain ⟨k, h1, h2, h3, h4⟩ := low 64 s hs h
  rw [least_at s k h1 h3 h4]
  exact h2

/-- All numbers of a set, rising. -/
def list (s : Nat) : List Nat := (List.range 64).filter fun i => s.testBit i
def count (s : Nat) : Nat := (list s).length
theorem list_zero : list 0 = [] := by decide
theorem filter_range_least (n : Nat) (p : Nat → Bool) (k : Nat) (hk : k < n) (h : p k = true) (hn : ∀ j, j < k → p j = false) :
    (List.range n).filter p = k :: (List.range n).filter fun i => p i && !decide (k = i) := by
  have h1 : List.range n = List.range k ++ k :: List.range' (k + 1) (n - k - 1) := by
    rw [List.range_eq_range', List.range_eq_range', ← List.range'_succ, show n - k - 1 + 1 = n - k from by omega]
    have := @List.range'_append 0 k (n - k) 1
    simp only [Nat.one_mul, Nat.zero_add] at this
    rw [this, show k + (n - k) = n from by omega]
  rw [h1, List.filter_append, List.filter_append, List.filter_cons, List.filter_cons, if_pos h, if_neg (by simp)]
  have h2 : (List.range k).filter p = [] := List.filter_eq_nil_iff.2 fun j hj => by rw [hn j (List.mem_range.1 hj)]; decide
  have h3 : (List.range k).filter (fun i => p i && !decide (k = i)) = [] := List.filter_eq_nil_iff.2 fun j hj => by rw [hn j (List.mem_range.1 hj)]; simp
  rw [h2, h3]
  simp only [List.nil_append, List.cons.injEq, true_and]
  refine List.filter_congr fun j hj => ?_
  have : k + 1 ≤ j := (List.mem_range'_1.1 hj).1
  rw [decide_eq_false (by omega)]; simp
theorem list_step (s : Nat) (hs : s < 2 ^ 64) (h : s ≠ 0) : list s = least s :: list (del s (least s)) := by
  obtain ⟨h1, h2, h3⟩ := least_spec s hs h
  unfold list
  rw [filter_range_least 64 (fun i => s.testBit i) (least s) h1 h2 h3]
  congr 1
  refine List.filter_congr fun i _ => ?_
  rw [testBit_del]
theorem list_len (s : Nat) : (list s).length ≤ 64 := by
  have := List.length_filter_le (fun i => s.testBit i) (List.range 64)
  unfold list
  simpa using this
theorem list_nil (s : Nat) (hs : s < 2 ^ 64) : list s = [] ↔ s = 0 := by
  constructor
  · intro h
    by_cases h0 : s = 0
    · exact h0
    · rw [list_step s hs h0] at h; cases h
  · rintro rfl; exact list_zero
theorem mem_list (s i : Nat) : i ∈ list s ↔ i < 64 ∧ s.testBit i = true := by
  unfold list; simp [List.mem_filter]
end Bits
end Go.Proofs.YtlhfpnkfapghoaaDoor
end

section
/- Plain law: how many bits of a number are set, as Go's library reckons it. No condition. -/
set_option linter.unusedVariables false
set_option linter.unusedSimpArgs false
namespace Go.Proofs.YtlhfpnkfapghoaaDoor
namespace Bits

/-- A number out of its digits to the base 256, the least one first. -/
def ofD : List Nat → Nat
  | [] => 0
  | d :: l => d + 256 * ofD l
def shr (c c' : Nat) : List Nat → List Nat
  | [] => []
  | d :: l => (d / c + c' * (l.headD 0 % c)) :: shr c c' l
theorem ofD_mod (c c' : Nat) (hc : c * c' = 256) (l : List Nat) : ofD l % c = l.headD 0 % c := by
  cases l with
  | nil => rfl
  | cons d l =>
    show (d + 256 * ofD l) % c = d % c
    rw [← hc, Nat.mul_assoc, Nat.add_mul_mod_self_left]
theorem ofD_shr (c c' : Nat) (hc : c * c' = 256) (l : List Nat) : ofD l / c = ofD (shr c c' l) := by
  have hpos : 0 < c := by rcases Nat.eq_zero_or_pos c with rfl | h; · simp at hc
                          · exact h
  induction l with
  | nil => simp [ofD, shr]
  | cons d l ih =>
    show (d + 256 * ofD l) / c = d / c + c' * (l.headD 0 % c) + 256 * ofD (shr c c' l)
    rw [← ih, ← ofD_mod c c' hc l, ← hc, Nat.mul_assoc, Nat.add_mul_div_left _ _ hpos, Nat.add_assoc]
    congr 1
    rw [Nat.mul_assoc, Nat.mul_left_comm c c', ← Nat.mul_add, Nat.mod_add_div]
theorem shr_len (c c' : Nat) (l : List Nat) : (shr c c' l).length = l.length := by
  induction l with
  | nil => rfl
  | cons d l ih => simp [shr, ih]
theorem and_pair (a b m M : Nat) (ha : a < 256) (hm : m < 256) : (a + 256 * b) &&& (m + 256 * M) = (a &&& m) + 256 * (b &&& M) := by
  have h1 := @Nat.and_div_two_pow (a + 256 * b) (m + 256 * M) 8
  have h2 := @Nat.and_mod_two_pow (a + 256 * b) (m + 256 * M) 8
  rw [show (2 : Nat) ^ 8 = 256 from rfl] at h1 h2
  rw [show (a + 256 * b) / 256 = b from by omega, show (m + 256 * M) / 256 = M from by omega] at h1
  rw [show (a + 256 * b) % 256 = a from by omega, show (m + 256 * M) % 256 = m from by omega] at h2
  omega
theorem ofD_and (m : Nat) (hm : m < 256) (l : List Nat) (hl : ∀ d ∈ l, d < 256) : ofD l &&& ofD (List.replicate l.length m) = ofD (l.map (· &&& m)) := by
  induction l with
  | nil => simp [ofD]
  | cons d l ih =>
    show (d + 256 * ofD l) &&& (m + 256 * ofD (List.replicate l.length m)) = (d &&& m) + 256 * ofD (l.map (· &&& m))
    rw [and_pair _ _ _ _ (hl d (by simp)) hm, ih (fun x hx => hl x (by simp [hx]))]
theorem ofD_add (f g : Nat → Nat) (l : List Nat) : ofD (l.map f) + ofD (l.map g) = ofD (l.map fun d => f d + g d) := by
  induction l with
  | nil => rfl
  | cons d l ih =>
    show f d + 256 * ofD (l.map f) + (g d + 256 * ofD (l.map g)) = f d + g d + 256 * ofD (l.map fun d => f d + g d)
    rw [← ih]; omega
theorem shr_map_and (c c' m : Nat) (l : List Nat) (hl : ∀ d ∈ l, d < 256) (h : ∀ d, d < 256 → ∀ b, b < c → (d / c + c' * b) &&& m = d / c &&& m) (hc : 0 < c) :
    (shr c c' l).map (· &&& m) = l.map fun d => d / c &&& m := by
  induction l with
  | nil => rfl
  | cons d l ih =>
    show ((d / c + c' * (l.headD 0 % c)) &&& m) :: (shr c c' l).map (· &&& m) = (d / c &&& m) :: l.map fun d => d / c &&& m
    rw [h d (hl d (by simp)) _ (Nat.mod_lt _ hc), ih (fun x hx => hl x (by simp [hx]))]
theorem shr_small (c c' : Nat) (hc : c * c' = 256) (hpos : 0 < c) (l : List Nat) (hl : ∀ d ∈ l, d < 256) : ∀ d ∈ shr c c' l, d < 256 := by
  induction l with
  | nil => intro d hd; simp [shr] at hd
  | cons x l ih =>
    intro d hd
    simp only [shr, List.mem_cons] at hd
    rcases hd with rfl | hd
    · have h1 := hl x (by simp)
      have h2 : l.headD 0 % c < c := Nat.mod_lt _ hpos
      have h3 : x / c < c' := by rw [Nat.div_lt_iff_lt_mul hpos, Nat.mul_comm, hc]; exact h1
      have h4 : c' * (l.headD 0 % c) ≤ c' * (c - 1) := Nat.mul_le_mul_left _ (by omega)
      have h5 : c' * (c - 1) + c' = 256 := by
        rw [← Nat.mul_succ, Nat.succ_eq_add_one, show c - 1 + 1 = c from by omega, Nat.mul_comm]; exact hc
      omega
    · exact ih (fun x hx => hl x (by simp [hx])) d hd

def f1 (d : Nat) : Nat := (d / 2 &&& 85) + (d &&& 85)
def f2 (d : Nat) : Nat := (d / 4 &&& 51) + (d &&& 51)
def pop8 (d : Nat) : Nat := ((List.range 8).filter fun i => d.testBit i).length
theorem f1_lt (d : Nat) (h : d < 256) : f1 d < 256 := (by decide +kernel : ∀ d : Fin 256, f1 d.val < 256) ⟨d, h⟩
theorem f2_small (d : Nat) (h : d < 256) : f2 (f1 d) / 16 ≤ 4 ∧ f2 (f1 d) % 16 ≤ 4 := (by decide +kernel : ∀ d : Fin 256, f2 (f1 d.val) / 16 ≤ 4 ∧ f2 (f1 d.val) % 16 ≤ 4) ⟨d, h⟩
theorem f3_pop (d : Nat) (h : d < 256) : f2 (f1 d) / 16 + f2 (f1 d) % 16 = pop8 d := (by decide +kernel : ∀ d : Fin 256, f2 (f1 d.val) / 16 + f2 (f1 d.val) % 16 = pop8 d.val) ⟨d, h⟩
theorem pop8_le (d : Nat) : pop8 d ≤ 8 := by
  have := List.length_filter_le (fun i => d.testBit i) (List.range 8)
  unfold pop8; simpa using this
theorem step_one (l : List Nat) (h8 : l.length = 8) (hl : ∀ d ∈ l, d < 256) : (ofD l / 2 &&& 6148914691236517205) + (ofD l &&& 6148914691236517205) = ofD (l.map f1) := by
  rw [ofD_shr 2 128 rfl]
  have hm : (6148914691236517205 : Nat) = ofD (List.replicate 8 85) := by decide
  have h1 := ofD_and 85 (by decide) (shr 2 128 l) (shr_small 2 128 rfl (by decide) l hl)
  rw [shr_len, h8] at h1
  have h2 := ofD_and 85 (by decide) l hl
  rw [h8] at h2
  rw [hm, h1, h2, shr_map_and 2 128 85 l hl (fun d hd b hb => (by decide +kernel : ∀ d : Fin 256, ∀ b : Fin 2, (d.val / 2 + 128 * b.val) &&& 85 = d.val / 2 &&& 85) ⟨d, hd⟩ ⟨b, hb⟩) (by decide), ofD_add]
  rfl
theorem step_two (l : List Nat) (h8 : l.length = 8) (hl : ∀ d ∈ l, d < 256) : (ofD l / 4 &&& 3689348814741910323) + (ofD l &&& 3689348814741910323) = ofD (l.map f2) := by
  rw [ofD_shr 4 64 rfl]
  have hm : (3689348814741910323 : Nat) = ofD (List.replicate 8 51) := by decide
  have h1 := ofD_and 51 (by decide) (shr 4 64 l) (shr_small 4 64 rfl (by decide) l hl)
  rw [shr_len, h8] at h1
  have h2 := ofD_and 51 (by decide) l hl
  rw [h8] at h2
  rw [hm, h1, h2, shr_map_and 4 64 51 l hl (fun d hd b hb => (by decide +kernel : ∀ d : Fin 256, ∀ b : Fin 4, (d.val / 4 + 64 * b.val) &&& 51 = d.val / 4 &&& 51) ⟨d, hd⟩ ⟨b, hb⟩) (by decide), ofD_add]
  rfl
/-- The third step: digits whose halves are at most 4. -/
def third : List Nat → List Nat
  | [] => []
  | d :: l => (d / 16 + 16 * (l.headD 0 % 16) + d) :: third l
theorem third_sum (l : List Nat) : ofD (shr 16 16 l) + ofD l = ofD (third l) := by
  induction l with
  | nil => rfl
  | cons d l ih =>
    show d / 16 + 16 * (l.headD 0 % 16) + 256 * ofD (shr 16 16 l) + (d + 256 * ofD l) = d / 16 + 16 * (l.headD 0 % 16) + d + 256 * ofD (third l)
    rw [← ih]; omega
theorem third_small (l : List Nat) (hl : ∀ d ∈ l, d / 16 ≤ 4 ∧ d % 16 ≤ 4) : (∀ d ∈ third l, d < 256) ∧ (third l).map (· &&& 15) = l.map fun d => d / 16 + d % 16 := by
  induction l with
  | nil => exact ⟨fun d hd => by simp [third] at hd, rfl⟩
  | cons x l ih =>
    obtain ⟨i1, i2⟩ := ih (fun d hd => hl d (by simp [hd]))
    have hx := hl x (by simp)
    have hh : l.headD 0 % 16 ≤ 4 := by
      cases l with
      | nil => simp
      | cons y l => exact (hl y (by simp)).2
    refine ⟨fun d hd => ?_, ?_⟩
    · simp only [third, List.mem_cons] at hd
      rcases hd with rfl | hd
      · omega
      · exact i1 d hd
    · show ((x / 16 + 16 * (l.headD 0 % 16) + x) &&& 15) :: (third l).map (· &&& 15) = (x / 16 + x % 16) :: l.map fun d => d / 16 + d % 16
      rw [i2]
      congr 1
      have := Nat.and_two_pow_sub_one_eq_mod (x / 16 + 16 * (l.headD 0 % 16) + x) 4
      rw [show 2 ^ 4 - 1 = 15 from rfl, show 2 ^ 4 = 16 from rfl] at this
      rw [this]; omega
theorem third_len (l : List Nat) : (third l).length = l.length := by
  induction l with
  | nil => rfl
  | cons d l ih => simp [third, ih]
theorem step_three (l : List Nat) (h8 : l.length = 8) (hl : ∀ d ∈ l, d / 16 ≤ 4 ∧ d % 16 ≤ 4) : (ofD l / 16 + ofD l) &&& 1085102592571150095 = ofD (l.map fun d => d / 16 + d % 16) := by
  obtain ⟨i1, i2⟩ := third_small l hl
  rw [ofD_shr 16 16 rfl, third_sum]
  have hm : (1085102592571150095 : Nat) = ofD (List.replicate 8 15) := by decide
  have h1 := ofD_and 15 (by decide) (third l) i1
  rw [third_len, h8] at h1
  rw [hm, h1, i2]

def digits (x : Nat) : List Nat := [x % 256, x / 256 % 256, x / 65536 % 256, x / 16777216 % 256, x / 4294967296 % 256, x / 1099511627776 % 256, x / 281474976710656 % 256, x / 72057594037927936 % 256]
theorem ofD_digits (x : Nat) (hx : x < 18446744073709551616) : ofD (digits x) = x := by
  simp only [digits, ofD]; omega
theorem digits_lt (x : Nat) : ∀ d ∈ digits x, d < 256 := by
  intro d hd
  simp only [digits, List.mem_cons, List.not_mem_nil, or_false] at hd
  rcases hd with rfl | rfl | rfl | rfl | rfl | rfl | rfl | rfl <;> omega

def s1 (x : Nat) : Nat := (x / 2 &&& 6148914691236517205) + (x &&& 6148914691236517205)
def s2 (x : Nat) : Nat := (x / 4 &&& 3689348814741910323) + (x &&& 3689348814741910323)
def s3 (x : Nat) : Nat := (x / 16 + x) &&& 1085102592571150095
theorem s3_pop (x : Nat) (hx : x < 18446744073709551616) : s3 (s2 (s1 x)) = ofD ((digits x).map pop8) := by
  have hl := digits_lt x
  have h1 : s1 x = ofD ((digits x).map f1) := by
    have := step_one (digits x) rfl hl
    rw [ofD_digits x hx] at this
    exact this
  have h2 : s2 (s1 x) = ofD ((digits x).map fun d => f2 (f1 d)) := by
    rw [h1]
    have := step_two ((digits x).map f1) rfl (fun d hd => by
      obtain ⟨y, hy, rfl⟩ := List.mem_map.1 hd
      exact f1_lt y (hl y hy))
    rw [List.map_map] at this
    exact this
  rw [h2]
  have := step_three ((digits x).map fun d => f2 (f1 d)) rfl (fun d hd => by
      obtain ⟨y, hy, rfl⟩ := List.mem_map.1 hd
      exact f2_small y (hl y hy))
  rw [List.map_map] at this
  refine this.trans ?_
  congr 1
  exact List.map_congr_left fun d hd => f3_pop d (hl d hd)
def sums (x : Nat) : Nat := pop8 (x % 256) + pop8 (x / 256 % 256) + pop8 (x / 65536 % 256) + pop8 (x / 16777216 % 256) + pop8 (x / 4294967296 % 256) + pop8 (x / 1099511627776 % 256) + pop8 (x / 281474976710656 % 256) + pop8 (x / 72057594037927936 % 256)
def s4 (x : Nat) : Nat := x + x / 256
def s5 (x : Nat) : Nat := x + x / 65536
def s6 (x : Nat) : Nat := x + x / 4294967296
theorem dv (L H B : Nat) (h : L < B) : (L + B * H) / B = H := by
  rw [Nat.add_mul_div_left _ _ (by omega), Nat.div_eq_of_lt h, Nat.zero_add]
theorem s6_sum (x : Nat) (hx : x < 18446744073709551616) : s6 (s5 (s4 (s3 (s2 (s1 x))))) % 128 = sums x := by
  rw [s3_pop x hx]
  simp only [digits, List.map, ofD, sums]
  have a0 := pop8_le (x % 256)
  have a1 := pop8_le (x / 256 % 256)
  have a2 := pop8_le (x / 65536 % 256)
  have a3 := pop8_le (x / 16777216 % 256)
  have a4 := pop8_le (x / 4294967296 % 256)
  have a5 := pop8_le (x / 1099511627776 % 256)
  have a6 := pop8_le (x / 281474976710656 % 256)
  have a7 := pop8_le (x / 72057594037927936 % 256)
  generalize pop8 (x % 256) = b0 at *
  generalize pop8 (x / 256 % 256) = b1 at *
  generalize pop8 (x / 65536 % 256) = b2 at *
  generalize pop8 (x / 16777216 % 256) = b3 at *
  generalize pop8 (x / 4294967296 % 256) = b4 at *
  generalize pop8 (x / 1099511627776 % 256) = b5 at *
  generalize pop8 (x / 281474976710656 % 256) = b6 at *
  generalize pop8 (x / 72057594037927936 % 256) = b7 at *
  have e4 : s4 (b0 + 256 * (b1 + 256 * (b2 + 256 * (b3 + 256 * (b4 + 256 * (b5 + 256 * (b6 + 256 * (b7 + 256 * 0)))))))) = (b0 + b1) + 256 * ((b1 + b2) + 256 * ((b2 + b3) + 256 * ((b3 + b4) + 256 * ((b4 + b5) + 256 * ((b5 + b6) + 256 * ((b6 + b7) + 256 * b7)))))) := by
    unfold s4
    rw [dv b0 _ 256 (by omega)]
    omega
  rw [e4]
  have k0 : b0 + b1 ≤ 16 := by omega
  have k1 : b1 + b2 ≤ 16 := by omega
  have k2 : b2 + b3 ≤ 16 := by omega
  have k3 : b3 + b4 ≤ 16 := by omega
  have k4 : b4 + b5 ≤ 16 := by omega
  have k5 : b5 + b6 ≤ 16 := by omega
  have k6 : b6 + b7 ≤ 16 := by omega
  have e5 : s5 ((b0 + b1) + 256 * ((b1 + b2) + 256 * ((b2 + b3) + 256 * ((b3 + b4) + 256 * ((b4 + b5) + 256 * ((b5 + b6) + 256 * ((b6 + b7) + 256 * b7))))))) = (b0 + b1 + (b2 + b3)) + 256 * ((b1 + b2 + (b3 + b4)) + 256 * ((b2 + b3 + (b4 + b5)) + 256 * ((b3 + b4 + (b5 + b6)) + 256 * ((b4 + b5 + (b6 + b7)) + 256 * ((b5 + b6 + b7) + 256 * ((b6 + b7) + 256 * b7)))))) := by
    unfold s5
    rw [show ((b0 + b1) + 256 * ((b1 + b2) + 256 * ((b2 + b3) + 256 * ((b3 + b4) + 256 * ((b4 + b5) + 256 * ((b5 + b6) + 256 * ((b6 + b7) + 256 * b7))))))) / 65536 = ((b2 + b3) + 256 * ((b3 + b4) + 256 * ((b4 + b5) + 256 * ((b5 + b6) + 256 * ((b6 + b7) + 256 * b7))))) from by
      rw [show ((b0 + b1) + 256 * ((b1 + b2) + 256 * ((b2 + b3) + 256 * ((b3 + b4) + 256 * ((b4 + b5) + 256 * ((b5 + b6) + 256 * ((b6 + b7) + 256 * b7))))))) = ((b0 + b1) + 256 * (b1 + b2)) + 65536 * ((b2 + b3) + 256 * ((b3 + b4) + 256 * ((b4 + b5) + 256 * ((b5 + b6) + 256 * ((b6 + b7) + 256 * b7))))) from by omega]
      exact dv _ _ 65536 (by omega)]
    omega
  rw [e5]
  unfold s6
  rw [show ((b0 + b1 + (b2 + b3)) + 256 * ((b1 + b2 + (b3 + b4)) + 256 * ((b2 + b3 + (b4 + b5)) + 256 * ((b3 + b4 + (b5 + b6)) + 256 * ((b4 + b5 + (b6 + b7)) + 256 * ((b5 + b6 + b7) + 256 * ((b6 + b7) + 256 * b7))))))) / 4294967296 = (b4 + b5 + (b6 + b7)) + 256 * ((b5 + b6 + b7) + 256 * ((b6 + b7) + 256 * b7)) from by
    rw [show ((b0 + b1 + (b2 + b3)) + 256 * ((b1 + b2 + (b3 + b4)) + 256 * ((b2 + b3 + (b4 + b5)) + 256 * ((b3 + b4 + (b5 + b6)) + 256 * ((b4 + b5 + (b6 + b7)) + 256 * ((b5 + b6 + b7) + 256 * ((b6 + b7) + 256 * b7))))))) = ((b0 + b1 + (b2 + b3)) + 256 * ((b1 + b2 + (b3 + b4)) + 256 * ((b2 + b3 + (b4 + b5)) + 256 * (b3 + b4 + (b5 + b6))))) + 4294967296 * ((b4 + b5 + (b6 + b7)) + 256 * ((b5 + b6 + b7) + 256 * ((b6 + b7) + 256 * b7))) from by omega]
    exact dv _ _ 4294967296 (by omega)]
  rw [show (b0 + b1 + (b2 + b3)) + 256 * ((b1 + b2 + (b3 + b4)) + 256 * ((b2 + b3 + (b4 + b5)) + 256 * ((b3 + b4 + (b5 + b6)) + 256 * ((b4 + b5 + (b6 + b7)) + 256 * ((b5 + b6 + b7) + 256 * ((b6 + b7) + 256 * b7)))))) + ((b4 + b5 + (b6 + b7)) + 256 * ((b5 + b6 + b7) + 256 * ((b6 + b7) + 256 * b7)))
    = (b0 + b1 + b2 + b3 + b4 + b5 + b6 + b7) + 128 * (2 * ((b1 + b2 + (b3 + b4)) + 256 * ((b2 + b3 + (b4 + b5)) + 256 * ((b3 + b4 + (b5 + b6)) + 256 * ((b4 + b5 + (b6 + b7)) + 256 * ((b5 + b6 + b7) + 256 * ((b6 + b7) + 256 * b7))))) + (b5 + b6 + b7) + 256 * ((b6 + b7) + 256 * b7))) from by omega]
  rw [Nat.add_mul_mod_self_left]
  exact Nat.mod_eq_of_lt (by omega)

def cnt (n x : Nat) : Nat := ((List.range n).filter fun i => x.testBit i).length
theorem cnt_add (n x : Nat) : cnt (8 + n) x = cnt 8 x + cnt n (x / 256) := by
  unfold cnt
  rw [List.range_add, List.filter_append, List.length_append, List.filter_map, List.length_map]
  congr 2
  refine List.filter_congr fun i _ => ?_
  show x.testBit (8 + i) = (x / 256).testBit i
  rw [show (256 : Nat) = 2 ^ 8 from rfl, Nat.testBit_div_two_pow, Nat.add_comm]
theorem cnt8 (x : Nat) : cnt 8 x = pop8 (x % 256) := by
  unfold cnt pop8
  congr 1
  refine List.filter_congr fun i hi => ?_
  rw [show (256 : Nat) = 2 ^ 8 from rfl, Nat.testBit_mod_two_pow, decide_eq_true (List.mem_range.1 hi), Bool.true_and]
theorem count_sums (x : Nat) : count x = sums x := by
  have h : count x = cnt (8 + (8 + (8 + (8 + (8 + (8 + (8 + (8 + 0)))))))) x := rfl
  rw [h]
  simp only [cnt_add, cnt8, sums]
  simp only [Nat.div_div_eq_div_mul, cnt, Nat.reduceMul]
  simp only [List.range_zero, List.filter_nil, List.length_nil]
  omega
end Bits
end Go.Proofs.YtlhfpnkfapghoaaDoor
end

section
/- Two functions of Go's library on bits come to plain numbers: how many bits are set, and the least one. Of the second: where the library's table reads as its text lays it. -/
set_option linter.unusedVariables false
set_option linter.unusedSimpArgs false
namespace Go.Proofs.YtlhfpnkfapghoaaDoor
open Go.RowKit

theorem and_lit64 (x : Nat) (m : Int) (k : Nat) (hm : m = (k : Int)) (hx : x < 18446744073709551616) (hk : k < 18446744073709551616) : bits .and .u64 (x : Int) m = ((x &&& k : Nat) : Int) := by
  subst hm; exact Bits.and_u64 x k hx hk
theorem half_le (a b : Nat) : a &&& b ≤ b := Nat.and_le_right
theorem wrap64_127 (y : Nat) (hy : y < 9223372036854775808) : bits .and .i64 (wrap64 (y : Int)) 127 = ((y % 128 : Nat) : Int) := by
  have h1 : wrap64 (y : Int) = y := by unfold wrap64; omega
  rw [h1]
  have := bits_mask .i64 63 (by decide) (fun n h0 h1 => by rw [IntKind.wrap_i64]; omega) 7 (by decide) (y : Int) (by omega) (by omega)
  rw [show ((2 : Int) ^ 7 - 1) = 127 from by decide] at this
  rw [this]; omega
theorem wrap_u64_nat (m : Nat) : IntKind.u64.wrap (m : Int) = ((m % 18446744073709551616 : Nat) : Int) := by
  simp [IntKind.wrap, IntKind.bits, IntKind.signed]

theorem ones_count (x : Nat) (w : World) (hx : x < 18446744073709551616) : Calls Tryd.prog 122 #[.int .u64 x] w fun e w' => e = .returned (.int .i64 (Bits.count x)) ∧ w = w' := by
  have hfin := Bits.s6_sum x hx
  rw [← Bits.count_sums x] at hfin
  have b1 : Bits.s1 x ≤ 6148914691236517205 + 6148914691236517205 := Nat.add_le_add (half_le _ _) (half_le _ _)
  have e1 : IntKind.u64.wrap (bits .and .u64 ((x : Int) / 2) 6148914691236517205 + bits .and .u64 (x : Int) 6148914691236517205) = (Bits.s1 x : Nat) := by
    rw [show (x : Int) / 2 = ((x / 2 : Nat) : Int) from by omega, and_lit64 (x / 2) 6148914691236517205 6148914691236517205 (by omega) (by omega) (by decide), and_lit64 x 6148914691236517205 6148914691236517205 (by omega) hx (by decide)]
    have : Bits.s1 x = (x / 2 &&& 6148914691236517205) + (x &&& 6148914691236517205) := rfl
    rw [Bits.wrap_u64 _ (by omega) (by omega)]; omega
  generalize Bits.s1 x = y1 at *
  have b2 : Bits.s2 y1 ≤ 3689348814741910323 + 3689348814741910323 := Nat.add_le_add (half_le _ _) (half_le _ _)
  have e2 : IntKind.u64.wrap (bits .and .u64 ((y1 : Int) / 4) 3689348814741910323 + bits .and .u64 (y1 : Int) 3689348814741910323) = (Bits.s2 y1 : Nat) := by
    rw [show (y1 : Int) / 4 = ((y1 / 4 : Nat) : Int) from by omega, and_lit64 (y1 / 4) 3689348814741910323 3689348814741910323 (by omega) (by omega) (by decide), and_lit64 y1 3689348814741910323 3689348814741910323 (by omega) (by omega) (by decide)]
    have : Bits.s2 y1 = (y1 / 4 &&& 3689348814741910323) + (y1 &&& 3689348814741910323) := rfl
    rw [Bits.wrap_u64 _ (by omega) (by omega)]; omega
  generalize Bits.s2 y1 = y2 at *
  have b3 : Bits.s3 y2 ≤ 1085102592571150095 := half_le _ _
  have e3 : bits .and .u64 (IntKind.u64.wrap ((y2 : Int) / 16 + (y2 : Int))) 1085102592571150095 = (Bits.s3 y2 : Nat) := by
    rw [show (y2 : Int) / 16 + (y2 : Int) = ((y2 / 16 + y2 : Nat) : Int) from by omega, Bits.wrap_u64 _ (by omega) (by omega), and_lit64 (y2 / 16 + y2) 1085102592571150095 1085102592571150095 (by omega) (by omega) (by decide)]
    rfl
  generalize Bits.s3 y2 = y3 at *
  have b4 : Bits.s4 y3 = y3 + y3 / 256 := rfl
  have e4 : IntKind.u64.wrap ((y3 : Int) + (y3 : Int) / 256) = (Bits.s4 y3 : Nat) := by rw [Bits.wrap_u64 _ (by omega) (by omega)]; omega
  generalize Bits.s4 y3 = y4 at *
  have b5 : Bits.s5 y4 = y4 + y4 / 65536 := rfl
  have e5 : IntKind.u64.wrap ((y4 : Int) + (y4 : Int) / 65536) = (Bits.s5 y4 : Nat) := by rw [Bits.wrap_u64 _ (by omega) (by omega)]; omega
  generalize Bits.s5 y4 = y5 at *
  have b6 : Bits.s6 y5 = y5 + y5 / 4294967296 := rfl
  have e6 : IntKind.u64.wrap ((y5 : Int) + (y5 : Int) / 4294967296) = (Bits.s6 y5 : Nat) := by rw [Bits.wrap_u64 _ (by omega) (by omega)]; omega
  generalize Bits.s6 y5 = y6 at *
  have e7 := wrap64_127 y6 (by omega)
  rw [hfin] at e7
  clear b1 b2 b3 b4 b5 b6 hx hfin
  go_enter Tryd.func122, Tryd.ntmps122
  go_wp2
  go_ret
  exact ⟨rfl, rfl⟩

def tabArr : Array Value := (Bits.table.map fun z => Value.int .u8 z).toArray
/-- The library's table holds what its text lays. -/
def Tab (w : World) : Prop := ∃ T fr, w.heap[(0 : Nat)]? = some (.cells tabArr T fr)
theorem Tab.ch {S : Nat → Prop} {w w' : World} (h : Tab w) (hc : Ch S w w') (hn : ¬ S 0) : Tab w' := by
  obtain ⟨T, fr, h⟩ := h
  exact ⟨T, fr, (hc.block _ (Array.getElem?_eq_some_iff.1 h).1 hn).trans h⟩
theorem Tab.keep {w w' : World} (h : Tab w) (hc : Ch nob w w') : Tab w' := h.ch hc (fun h => h)
theorem Tab.drewN {w : World} (h : Tab w) (n : Nat) : Tab (w.drewN n) := h
theorem Tab.lt {w : World} (h : Tab w) : 0 < w.heap.size := by
  obtain ⟨T, fr, h⟩ := h
  exact (Array.getElem?_eq_some_iff.1 h).1
theorem Tab.cell {w : World} (h : Tab w) (i : Nat) (hi : i < 64) : w.cell? ⟨0, i, none⟩ = some (.int .u8 (Bits.table.getD i 0)) := by
  obtain ⟨T, fr, h⟩ := h
  rw [cell_of_row w _ i tabArr T fr h]
  have : tabArr.size = 64 := rfl
  unfold tabArr
  rw [List.getElem?_toArray, List.getElem?_map, List.getD_eq_getElem?_getD]
  have hl : i < Bits.table.length := hi
  rw [List.getElem?_eq_getElem hl]; rfl

theorem trailing_zeros (x : Nat) (w : World) (hx : x < 18446744073709551616) (hT : Tab w) : Calls Tryd.prog 141 #[.int .u64 x] w fun e w' => e = .returned (.int .i64 (Bits.least x)) ∧ w = w' := by
  by_cases h0 : x = 0
  · subst h0
    have hl := Lib.hid Bits.least_zero
    go_enter Tryd.func141, Tryd.ntmps141
    go_wp2
    go_ret
    exact ⟨ret_int (by rw [hl.out]; rfl), rfl⟩
  · obtain ⟨hk, _, _⟩ := Bits.least_spec x hx h0
    have hlow := Bits.least_low x hx h0
    generalize Bits.least x = k at hk hlow ⊢
    have ht := Bits.table_at k hk
    have hb : ((x : Int) == 0) = false := by simp [h0]
    have hp : 2 ^ k < 18446744073709551616 := Nat.pow_lt_pow_right (m := k) (n := 64) (by decide) hk
    have e1 : bits .and .u64 (x : Int) (IntKind.u64.wrap (-(x : Int))) = ((2 ^ k : Nat) : Int) := by
      have : IntKind.u64.wrap (-(x : Int)) = ((18446744073709551616 - x : Nat) : Int) := by
        simp [IntKind.wrap, IntKind.bits, IntKind.signed]; omega
      rw [this, Bits.and_u64 x _ hx (by omega), hlow]
    obtain ⟨p, hpe⟩ : ∃ p : Nat, 2 ^ k = p := ⟨_, rfl⟩
    rw [hpe] at e1 ht hp
    obtain ⟨i, hi⟩ : ∃ i : Nat, p * 285870213051353865 % 18446744073709551616 / 288230376151711744 = i := ⟨_, rfl⟩
    have hi64 : i < 64 := by omega
    rw [hi] at ht
    have e2 : IntKind.u64.wrap ((p : Int) * 285870213051353865) / 288230376151711744 = (i : Int) := by
      rw [show (p : Int) * 285870213051353865 = ((p * 285870213051353865 : Nat) : Int) from by omega, wrap_u64_nat]
      omega
    have hc := hT.cell i hi64
    rw [ht] at hc
    clear hlow ht hpe hi hp hT h0
    go_enter Tryd.func141, Tryd.ntmps141
    go_wp2
    go_ret
    exact ⟨rfl, rfl⟩
end Go.Proofs.YtlhfpnkfapghoaaDoor
end

section
/- The functions of package set come to plain sets. Where the library's table reads as its text lays it, for those that ask for the least number. -/
set_option linter.unusedVariables false
set_option linter.unusedSimpArgs false
namespace Go.Proofs.YtlhfpnkfapghoaaDoor
open Go.RowKit

/-- Can a number be in a set? -/
def inS (n : Int) : Bool := decide (0 ≤ n ∧ n < 64)
theorem in_set (n : Int) (w : World) : Calls Tryd.prog 91 #[.int .i64 n] w fun e w' => e = .returned (.bool (inS n)) ∧ w = w' := by
  by_cases h0 : 0 ≤ n
  · by_cases h1 : n < 64
    · have h := Lib.hid (show inS n = true from decide_eq_true ⟨h0, h1⟩)
      go_enter Tryd.func91, Tryd.ntmps91
      go_wp2
      go_ret
      exact ⟨ret_bool h.out.symm, rfl⟩
    · have h := Lib.hid (show inS n = false from decide_eq_false (by omega))
      go_enter Tryd.func91, Tryd.ntmps91
      go_wp2
      go_ret
      exact ⟨ret_bool h.out.symm, rfl⟩
  · have h := Lib.hid (show inS n = false from decide_eq_false (by omega))
    go_enter Tryd.func91, Tryd.ntmps91
    go_wp2
    go_ret
    exact ⟨ret_bool h.out.symm, rfl⟩

theorem wrap_pow (k : Nat) (hk : k < 64) : IntKind.u64.wrap ((2 : Int) ^ k) = ((2 ^ k : Nat) : Int) := by
  have hp : 2 ^ k < 18446744073709551616 := Nat.pow_lt_pow_right (m := k) (n := 64) (by decide) hk
  have e : ((2 : Int) ^ k) = ((2 ^ k : Nat) : Int) := by rw [Int.natCast_pow]; rfl
  rw [e, wrap_u64_nat, Nat.mod_eq_of_lt hp]
def hasS (s : Nat) (n : Int) : Bool := inS n && s.testBit n.toNat
def withS (s : Nat) (n : Int) : Nat := if inS n then Bits.put s n.toNat else s
def withoutS (s : Nat) (n : Int) : Nat := if inS n then Bits.del s n.toNat else s
theorem withS_lt (s : Nat) (n : Int) (hs : s < 18446744073709551616) : withS s n < 18446744073709551616 := by
  unfold withS inS
  split
  · rename_i h
    have := of_decide_eq_true h
    exact Bits.put_lt s n.toNat hs (by omega)
  · exact hs
theorem withoutS_lt (s : Nat) (n : Int) (hs : s < 18446744073709551616) : withoutS s n < 18446744073709551616 := by
  unfold withoutS
  split
  · exact Bits.del_lt s n.toNat hs
  · exact hs

theorem has_set (s : Nat) (n : Int) (w : World) (hs : s < 18446744073709551616) : Calls Tryd.prog 33 #[.int .u64 s, .int .i64 n] w fun e w' => e = .returned (.bool (hasS s n)) ∧ w = w' := by
  cases hi : inS n
  · have h := Lib.hid (show hasS s n = false from by unfold hasS; rw [hi]; rfl)
    go_enter Tryd.func33, Tryd.ntmps33
    go_wp2_with fail
    refine (in_set _ _).mono ?_
    rintro e w1 ⟨rfl, rfl⟩
    go_wp2_with fail
    go_ret
    exact ⟨ret_bool h.out.symm, rfl⟩
  · have hb := of_decide_eq_true hi
    obtain ⟨k, rfl⟩ := Int.eq_ofNat_of_zero_le hb.1
    have hk : k < 64 := by omega
    have h := Lib.hid (show hasS s k = s.testBit k from by unfold hasS; rw [hi]; rfl)
    have he : (bits .and .u64 ((s : Int) / 2 ^ k) 1 == 1) = s.testBit k := by
      rw [show (s : Int) / 2 ^ k = ((s / 2 ^ k : Nat) : Int) from by rw [Int.natCast_ediv]; rfl]
      have hle : s / 2 ^ k ≤ s := Nat.div_le_self _ _
      rw [and_lit64 (s / 2 ^ k) 1 1 (by omega) (by omega) (by decide), Nat.and_one_is_mod]
      rw [Nat.testBit_eq_decide_div_mod_eq]
      rw [Bool.eq_iff_iff, beq_iff_eq, decide_eq_true_iff]
      omega
    have hlt : (k : Int) < 64 := by omega
    clear hb
    go_enter Tryd.func33, Tryd.ntmps33
    go_wp2_with fail
    refine (in_set _ _).mono ?_
    rintro e w1 ⟨rfl, rfl⟩
    go_wp2_with fail
    go_ret
    exact ⟨ret_bool (by rw [h.out]), rfl⟩

theorem with_set (s : Nat) (n : Int) (w : World) (hs : s < 18446744073709551616) : Calls Tryd.prog 76 #[.int .u64 s, .int .i64 n] w fun e w' => e = .returned (.int .u64 (withS s n)) ∧ w = w' := by
  cases hi : inS n
  · have h := Lib.hid (show withS s n = s from by unfold withS; rw [hi]; rfl)
    go_enter Tryd.func76, Tryd.ntmps76
    go_wp2_with fail
    refine (in_set _ _).mono ?_
    rintro e w1 ⟨rfl, rfl⟩
    go_wp2_with fail
    go_ret
    exact ⟨ret_int (by rw [h.out]), rfl⟩
  · have hb := of_decide_eq_true hi
    obtain ⟨k, rfl⟩ := Int.eq_ofNat_of_zero_le hb.1
    have hk : k < 64 := by omega
    have h := Lib.hid (show withS s k = Bits.put s k from by unfold withS; rw [hi]; rfl)
    have hp : 2 ^ k < 18446744073709551616 := Nat.pow_lt_pow_right (m := k) (n := 64) (by decide) hk
    have he : bits .or .u64 (s : Int) (IntKind.u64.wrap (2 ^ k)) = ((Bits.put s k : Nat) : Int) := by
      rw [wrap_pow k hk, Bits.or_u64 s (2 ^ k) hs hp]; rfl
    have HE := Lib.hid he
    clear hb he hp
    have hlt : (k : Int) < 64 := by omega
    go_enter Tryd.func76, Tryd.ntmps76
    go_wp2_with fail
    refine (in_set _ _).mono ?_
    rintro e w1 ⟨rfl, rfl⟩
    go_wp2_with fail
    go_ret
    exact ⟨ret_int (by rw [h.out, HE.out]), rfl⟩

theorem without_set (s : Nat) (n : Int) (w : World) (hs : s < 18446744073709551616) : Calls Tryd.prog 93 #[.int .u64 s, .int .i64 n] w fun e w' => e = .returned (.int .u64 (withoutS s n)) ∧ w = w' := by
  cases hi : inS n
  · have h := Lib.hid (show withoutS s n = s from by unfold withoutS; rw [hi]; rfl)
    go_enter Tryd.func93, Tryd.ntmps93
    go_wp2_with fail
    refine (in_set _ _).mono ?_
    rintro e w1 ⟨rfl, rfl⟩
    go_wp2_with fail
    go_ret
    exact ⟨ret_int (by rw [h.out]), rfl⟩
  · have hb := of_decide_eq_true hi
    obtain ⟨k, rfl⟩ := Int.eq_ofNat_of_zero_le hb.1
    have hk : k < 64 := by omega
    have h := Lib.hid (show withoutS s k = Bits.del s k from by unfold withoutS; rw [hi]; rfl)
    have hp : 2 ^ k < 18446744073709551616 := Nat.pow_lt_pow_right (m := k) (n := 64) (by decide) hk
    have he : bits .andNot .u64 (s : Int) (IntKind.u64.wrap (2 ^ k)) = ((Bits.del s k : Nat) : Int) := by
      rw [wrap_pow k hk, Bits.andNot_u64 s (2 ^ k) hs hp]; rfl
    have HE := Lib.hid he
    clear hb he hp
    have hlt : (k : Int) < 64 := by omega
    go_enter Tryd.func93, Tryd.ntmps93
    go_wp2_with fail
    refine (in_set _ _).mono ?_
    rintro e w1 ⟨rfl, rfl⟩
    go_wp2_with fail
    go_ret
    exact ⟨ret_int (by rw [h.out, HE.out]), rfl⟩

theorem count_set (s : Nat) (w : World) (hs : s < 18446744073709551616) : Calls Tryd.prog 86 #[.int .u64 s] w fun e w' => e = .returned (.int .i64 (Bits.count s)) ∧ w = w' := by
  go_enter Tryd.func86, Tryd.ntmps86
  go_wp2_with fail
  refine (ones_count _ _ hs).mono ?_
  rintro e w1 ⟨rfl, rfl⟩
  go_wp2_with fail
  go_ret
  exact ⟨rfl, rfl⟩
theorem first_set (s : Nat) (w : World) (hs : s < 18446744073709551616) (hT : Tab w) : Calls Tryd.prog 132 #[.int .u64 s] w fun e w' => e = .returned (.int .i64 (Bits.least s)) ∧ w = w' := by
  go_enter Tryd.func132, Tryd.ntmps132
  go_wp2_with fail
  refine (trailing_zeros _ _ hs hT).mono ?_
  rintro e w1 ⟨rfl, rfl⟩
  go_wp2_with fail
  go_ret
  exact ⟨rfl, rfl⟩

def withinS (s t : Nat) : Bool := s ^^^ (s &&& t) == 0
theorem within_set (s t : Nat) (w : World) (hs : s < 18446744073709551616) (ht : t < 18446744073709551616) : Calls Tryd.prog 83 #[.int .u64 s, .int .u64 t] w fun e w' => e = .returned (.bool (withinS s t)) ∧ w = w' := by
  have he : (bits .andNot .u64 (s : Int) (t : Int) == 0) = withinS s t := by
    rw [Bits.andNot_u64 s t hs ht]
    unfold withinS
    rw [Bool.eq_iff_iff, beq_iff_eq, beq_iff_eq]
    omega
  go_enter Tryd.func83, Tryd.ntmps83
  go_wp2_with fail
  go_ret
  exact ⟨rfl, rfl⟩

/-- All numbers below one. -/
def belowS (n : Int) : Nat := if 64 ≤ n then 18446744073709551615 else if n < 1 then 0 else 2 ^ n.toNat - 1
theorem belowS_lt (n : Int) : belowS n < 18446744073709551616 := by
  unfold belowS
  split
  · decide
  · split
    · decide
    · have : 2 ^ n.toNat < 18446744073709551616 := Nat.pow_lt_pow_right (m := n.toNat) (n := 64) (by decide) (by omega)
      omega
theorem below_set (n : Int) (w : World) : Calls Tryd.prog 110 #[.int .i64 n] w fun e w' => e = .returned (.int .u64 (belowS n)) ∧ w = w' := by
  by_cases h1 : 64 ≤ n
  · have h := Lib.hid (show belowS n = 18446744073709551615 from by unfold belowS; rw [if_pos h1])
    go_enter Tryd.func110, Tryd.ntmps110
    go_wp2_with fail
    go_ret
    exact ⟨ret_int (by rw [h.out]; rfl), rfl⟩
  · by_cases h2 : n < 1
    · have h := Lib.hid (show belowS n = 0 from by unfold belowS; rw [if_neg h1, if_pos h2])
      go_enter Tryd.func110, Tryd.ntmps110
      go_wp2_with fail
      go_ret
      exact ⟨ret_int (by rw [h.out]; rfl), rfl⟩
    · obtain ⟨k, rfl⟩ := Int.eq_ofNat_of_zero_le (show 0 ≤ n by omega)
      have hk : k < 64 := by omega
      have hp : 2 ^ k < 18446744073709551616 := Nat.pow_lt_pow_right (m := k) (n := 64) (by decide) hk
      have hp1 : 0 < 2 ^ k := Nat.two_pow_pos k
      have h := Lib.hid (show belowS k = 2 ^ k - 1 from by unfold belowS; rw [if_neg h1, if_neg h2]; rfl)
      have he : IntKind.u64.wrap (IntKind.u64.wrap (2 ^ k) - 1) = ((2 ^ k - 1 : Nat) : Int) := by
        rw [wrap_pow k hk, Bits.wrap_u64 _ (by omega) (by omega)]; omega
      have HE := Lib.hid he
      clear he hp hp1
      go_enter Tryd.func110, Tryd.ntmps110
      go_wp2_with fail
      go_ret
      exact ⟨ret_int (by rw [h.out, HE.out]), rfl⟩

def ofTo (l : List Int) (k : Nat) : Nat := (l.take k).foldl withS 0
def ofS (l : List Int) : Nat := l.foldl withS 0
theorem ofTo_lt (l : List Int) (k : Nat) : ofTo l k < 18446744073709551616 := by
  unfold ofTo
  generalize l.take k = m
  have : ∀ (m : List Int) (s : Nat), s < 18446744073709551616 → m.foldl withS s < 18446744073709551616 := by
    intro m
    induction m with
    | nil => intro s hs; exact hs
    | cons a m ih => intro s hs; exact ih _ (withS_lt s a hs)
  exact this m 0 (by decide)
theorem ofTo_succ (l : List Int) (k : Nat) (h : k < l.length) : ofTo l (k + 1) = withS (ofTo l k) (l.getD k 0) := by
  unfold ofTo
  rw [List.take_add_one, List.foldl_append, List.getElem?_eq_getElem h, List.getD_eq_getElem?_getD, List.getElem?_eq_getElem h]
  rfl
theorem ofTo_all (l : List Int) : ofTo l l.length = ofS l := by unfold ofTo; rw [List.take_length]; rfl
theorem ofS_lt (l : List Int) : ofS l < 18446744073709551616 := ofTo_all l ▸ ofTo_lt l _
theorem of_set (v : Value) (l : List Int) (w : World) (hl : Ints w v l) : Calls Tryd.prog 109 #[v] w fun e w' => e = .returned (.int .u64 (ofS l)) ∧ w = w' := by
  obtain ⟨A, c, rfl⟩ := hl.shape
  obtain ⟨_, hlen, hcells⟩ := hl.at
  have HC := Lib.hid hcells
  have HA := Lib.hid (ofTo_all l)
  clear hl hcells
  go_enter Tryd.func109, Tryd.ntmps109
  go_wp2_with fail
  go_loop [3, 8] (fun x q => ∃ k : Nat, q = .int .i64 k ∧ k ≤ l.length ∧ x = .int .u64 (ofTo l k)) (fun _ q => l.length - (intOf q).toNat)
  case atStart => exact ⟨0, rfl, by omega, rfl⟩
  case round =>
    obtain ⟨k, rfl, hk, rfl⟩ := hrel
    by_cases hlt : k < l.length
    · obtain ⟨ad, rfl, hx⟩ := HC.out k hlt
      have HS := Lib.hid (ofTo_succ l k hlt)
      have hlt2 := ofTo_lt l k
      generalize l.getD k 0 = z at hx HS
      clear HC
      go_wp2_with fail
      refine (with_set _ _ _ hlt2).mono ?_
      rintro e w1 ⟨rfl, rfl⟩
      go_wp2_with fail
      go_round
      case rel => exact ⟨k + 1, by go_num, by omega, by rw [HS.out]⟩
      case measure => simp [intOf]; omega
    · obtain rfl : k = l.length := by omega
      clear HC
      go_wp2_with fail
      go_ret
      exact ⟨ret_int (by rw [HA.out]), rfl⟩

/-- All numbers of a set, as ints. -/
def listS (s : Nat) : List Int := (Bits.list s).map fun i : Nat => (i : Int)
theorem listS_len (s : Nat) : (listS s).length ≤ 64 := by unfold listS; rw [List.length_map]; exact Bits.list_len s
theorem listS_step (s : Nat) (hs : s < 18446744073709551616) (h : s ≠ 0) : listS s = (Bits.least s : Int) :: listS (withoutS s (Bits.least s : Int)) := by
  have h1 := (Bits.least_spec s hs h).1
  unfold listS
  rw [Bits.list_step s hs h, List.map_cons]
  congr 2
  unfold withoutS inS
  rw [if_pos (decide_eq_true (by omega))]
  rfl
theorem list_set (s : Nat) (w : World) (hs : s < 18446744073709551616) (hT : Tab w) : Calls Tryd.prog 111 #[.int .u64 s] w (RetOwn .i64 w 3 (listS s)) := by
  have hcl : Bits.count s ≤ 64 := Bits.list_len s
  go_enter Tryd.func111, Tryd.ntmps111
  go_wp2_with fail
  refine (count_set _ _ hs).mono ?_
  rintro e w1 ⟨rfl, rfl⟩
  go_wp2_with (at_make; refine wpList_make_int rfl _ _ 35 3 rfl .i64 8 elem_int (by decide) w.heap.size (Bits.count s) .i64 .i64 _ rfl rfl rfl (by omega) (Nat.le_refl _) ?_; intro w1 ho0 hc0)
  have hs0 : ([] : List Int) ++ listS s = listS s := rfl
  have HS0 := Lib.hid hs0
  have hlt := hT.lt
  clear hs0 hcl
  go_loopw [0, 3] (fun x o wr => ∃ (t : Nat) (l : List Int), x = .int .u64 t ∧ t < 18446744073709551616 ∧ Hid (l ++ listS t = listS s) ∧ Own wr w.heap.size 3 o l ∧ Ch nob w wr ∧ Tab wr) (fun x _ _ => (listS (intOf x).toNat).length)
  case atStart => exact ⟨s, [], rfl, hs, HS0, ho0, hc0, hT.keep hc0⟩
  case round =>
    clear ho0 hc0 hT
    obtain ⟨t, l, rfl, ht, hl, ho, hc, hT⟩ := hrel
    have hmeas : (listS (intOf (Value.int .u64 (t : Int))).toNat).length = (listS t).length := rfl
    by_cases h0 : t = 0
    · have hb : ((t : Int) != 0) = false := by simp [h0]
      have HL : Hid (l = listS s) := by
        have := hl.out
        rw [h0, show listS 0 = [] from by unfold listS; rw [Bits.list_zero]; rfl, List.append_nil] at this
        exact this
      clear h0 hmeas
      go_wp2_with fail
      go_ret
      exact ⟨_, rfl, by have := HL.out; rw [← this]; exact ho, hc⟩
    · have hb : ((t : Int) != 0) = true := by simp [h0]
      have HT := Lib.hid (listS_step t ht h0)
      have hlen := listS_len t
      have hll : l.length ≤ 64 := by
        have h1 := congrArg List.length hl.out
        rw [List.length_append] at h1
        have := listS_len s
        omega
      have hm2 : (listS (withoutS t (Bits.least t : Int))).length < (listS t).length := by rw [HT.out]; simp
      have hwl := withoutS_lt t (Bits.least t : Int) ht
      have HL2 : Hid ((l ++ [(Bits.least t : Int)]) ++ listS (withoutS t (Bits.least t : Int)) = listS s) := by
        show _ = _
        rw [List.append_assoc, List.singleton_append, ← HT.out]; exact hl.out
      have HM := Lib.hid hmeas
      clear h0 hmeas
      go_wp2_with fail
      refine (first_set _ _ ht hT).mono ?_
      rintro e w2 ⟨rfl, rfl⟩
      generalize Bits.least t = k at hm2 hwl HL2 ⊢
      have hof := Lib.hid (ho.alloc (.cells #[.int .i64 (k : Int)] 3))
      have hc2 := Lib.hid (hc.alloc (.cells #[.int .i64 (k : Int)] 3))
      have hnb := Lib.hid (Blk.new wr #[.int .i64 (k : Int)] 3)
      have hge := hc2.out.size
      have hT2 := Lib.hid (hT.keep ((Ch.refl nob wr).alloc (.cells #[.int .i64 (k : Int)] 3)))
      clear ho hc hT
      go_wp2_with (first | (at_builtin; refine wpList_append_int rfl (.tmp 12) (.tmp 14) 35 3 rfl .i64 8 elem_int (by decide) w.heap.size u3 _ rfl hof.out wr.heap.size (k : Int) 3 rfl hnb.out (by omega) (by omega) ?_; intro v' w' hown hg; have hc4 := hc2.out.grown_own hg (fun b hb => (hof.out.ge b hb).1); have hT3 := hT2.out.ch (Ch.toGrown hg) (fun e => by have := (hof.out.ge _ e).1; omega)) | (go_at_call 93; refine (without_set _ _ _ ht).mono ?_; rintro e w5 ⟨rfl, rfl⟩))
      go_roundw
      case rel => exact ⟨_, _, rfl, hwl, HL2, hown, hc4, hT3⟩
      case measure => simp [intOf]; omega
end Go.Proofs.YtlhfpnkfapghoaaDoor
end

section
/- Relations of numbers below 64: what the program's functions come to. No condition but each theorem's own. -/
set_option linter.unusedVariables false
set_option linter.unusedSimpArgs false
namespace Go.Proofs.YtlhfpnkfapghoaaDoor
open Go.RowKit

/-- A relation's cells. -/
def relArr (r : Nat → Nat) : Array Value := arrOf 64 fun i => .int .u64 (r i)
def RelOK (r : Nat → Nat) : Prop := ∀ i, r i < 18446744073709551616
theorem relArr_ext {r s : Nat → Nat} (h : ∀ k, k < 64 → r k = s k) : relArr r = relArr s := arrOf_ext fun k hk => by rw [h k hk]
theorem zero_rel (w : World) : (zeroValue 40).run Tryd.prog w = .ok (.agg (relArr fun _ => 0)) w := by kernel_rfl
attribute [local go_sem ↓] zero_rel
theorem relArr_size (r : Nat → Nat) : (relArr r).size = 64 := arrOf_size _ _
theorem relArr_cells (r : Nat → Nat) : (relArr r).all (·.oneCell') = true := arrOf_cells _ _ fun _ _ => rfl
theorem Blk.relAt {w : World} {g : Nat} {r : Nat → Nat} {T : TypeId} (h : Blk w g (relArr r) T) (i : Nat) (hi : i < 64) : w.cell? ⟨g, i, none⟩ = some (.int .u64 (r i)) := h.cellOf i hi
/-- One row of a relation set anew. -/
def rowSet (r : Nat → Nat) (i s : Nat) : Nat → Nat := fun k => if k = i then s else r k
theorem rowSet_ok {r : Nat → Nat} (h : RelOK r) (i s : Nat) (hs : s < 18446744073709551616) : RelOK (rowSet r i s) := fun k => by
  unfold rowSet
  split
  · exact hs
  · exact h k
theorem Blk.relSet {w : World} {g : Nat} {r : Nat → Nat} {T : TypeId} (h : Blk w g (relArr r) T) (i s : Nat) : Blk (w.setCell ⟨g, i, none⟩ (.int .u64 s)) g (relArr (rowSet r i s)) T := by
  have := h.setOf i (.int .u64 s)
  refine this.congr fun k _ => ?_
  unfold rowSet
  split <;> rfl

def hasR (r : Nat → Nat) (a b : Int) : Bool := inS a && hasS (r a.toNat) b
set_option maxRecDepth 100000 in
theorem has_rel (r : Nat → Nat) (ok : RelOK r) (a b : Int) (w : World) : Calls Tryd.prog 31 #[.agg (relArr r), .int .i64 a, .int .i64 b] w fun e w' => e = .returned (.bool (hasR r a b)) ∧ Ch nob w w' := by
  obtain ⟨hb, hc, hs⟩ := one_new w (relArr r) 40
  by_cases h0 : 0 ≤ a
  · by_cases h1 : a < 64
    · obtain ⟨n, rfl⟩ := Int.eq_ofNat_of_zero_le h0
      have hx := hb.relAt n (by omega)
      have hlt := ok n
      have HE := Lib.hid (show hasR r (n : Int) b = hasS (r n) b from by unfold hasR inS; rw [decide_eq_true (by omega)]; rfl)
      clear ok
      go_enter Tryd.func31, Tryd.ntmps31
      go_wp2_with fail
      generalize w.alloc _ = w1 at hb hc hs hx ⊢
      refine (has_set (r n) b _ hlt).mono ?_
      rintro e w2 ⟨rfl, rfl⟩
      go_wp2_with fail
      go_ret
      exact ⟨ret_bool HE.out.symm, hc⟩
    · have HE := Lib.hid (show hasR r a b = false from by unfold hasR inS; rw [decide_eq_false (by omega)]; rfl)
      go_enter Tryd.func31, Tryd.ntmps31
      go_wp2_with fail
      go_ret
      exact ⟨ret_bool HE.out.symm, hc⟩
  · have HE := Lib.hid (show hasR r a b = false from by unfold hasR inS; rw [decide_eq_false (by omega)]; rfl)
    go_enter Tryd.func31, Tryd.ntmps31
    go_wp2_with fail
    go_ret
    exact ⟨ret_bool HE.out.symm, hc⟩

def unionR (r t : Nat → Nat) (n : Nat) : Nat → Nat := fun i => if i < n then r i ||| t i else r i
theorem or_ok {a b : Nat} (ha : a < 18446744073709551616) (hb : b < 18446744073709551616) : a ||| b < 18446744073709551616 := Nat.or_lt_two_pow (n := 64) ha hb
theorem unionR_zero (r t : Nat → Nat) : unionR r t 0 = r := rfl
theorem unionR_succ (r t : Nat → Nat) (n : Nat) : rowSet (unionR r t n) n (r n ||| t n) = unionR r t (n + 1) := by
  funext k
  unfold rowSet unionR
  by_cases h : k = n
  · subst h; simp
  · rw [if_neg h]
    by_cases h2 : k < n
    · rw [if_pos h2, if_pos (by omega)]
    · rw [if_neg h2, if_neg (by omega)]
set_option maxRecDepth 100000 in
theorem union_rel (r t : Nat → Nat) (okr : RelOK r) (okt : RelOK t) (w : World) : Calls Tryd.prog 79 #[.agg (relArr r), .agg (relArr t)] w fun e w' => e = .returned (.agg (relArr (unionR r t 64))) ∧ Ch nob w w' := by
  go_enter Tryd.func79, Tryd.ntmps79
  go_wp2_with fail
  obtain ⟨hr0, ht0, hc0, hs0⟩ := two_new w (relArr r) (relArr t) 40 40
  obtain ⟨hz0, hcz, hsz⟩ := one_new ((w.alloc (.cells (relArr r) 40)).alloc (.cells (relArr t) 40)) (relArr fun _ => 0) 40
  have hr1 := hr0.ch hcz (fun h => h)
  have ht1 := ht0.ch hcz (fun h => h)
  have hc1 := hc0.seq hcz
  rw [hs0] at hz0
  have hz0 : Blk _ (w.heap.size + 1 + 1) _ _ := hz0
  generalize ((w.alloc _).alloc _).alloc _ = w1 at hr1 ht1 hz0 hc1 ⊢
  clear hr0 ht0 hc0 hs0 hcz hsz
  go_loopw [6] (fun q wr => ∃ n : Nat, q = .int .i64 n ∧ n ≤ 64 ∧ Blk wr w.heap.size (relArr (unionR r t n)) 40 ∧ Blk wr (w.heap.size + 1) (relArr t) 40 ∧ Blk wr (w.heap.size + 1 + 1) (relArr fun _ => 0) 40 ∧ Ch nob w wr) (fun q _ => 64 - (intOf q).toNat)
  case atStart => exact ⟨0, rfl, by omega, hr1, ht1, hz0, hc1⟩
  case round =>
    clear hr1 ht1 hz0 hc1
    obtain ⟨n, rfl, hn, hr, ht, hz, hc⟩ := hrel
    by_cases hlt : n < 64
    · have hx := hr.relAt n hlt
      have hy := ht.relAt n hlt
      have hf := hr.free n
      rw [show unionR r t n n = r n from by unfold unionR; rw [if_neg (by omega)]] at hx
      have hor := Bits.or_u64 (r n) (t n) (okr n) (okt n)
      have hr2 := hr.relSet n (r n ||| t n)
      rw [unionR_succ] at hr2
      have hch : Ch (· = w.heap.size) wr (wr.setCell ⟨w.heap.size, n, none⟩ (.int .u64 (r n ||| t n : Nat))) := (Ch.refl _ _).setCell _ _ (fun _ => rfl)
      have ht2 := ht.ch hch (by omega)
      have hz2 := hz.ch hch (by omega)
      have hc2 := hc.setCell ⟨w.heap.size, n, none⟩ (.int .u64 (r n ||| t n : Nat)) (fun h => by simp at h)
      clear hr ht hz hc hch
      go_wp2_with fail
      go_region_with fail
      all_goals
        go_wp2_with fail
        go_roundw
        case rel => exact ⟨n + 1, by go_num, by omega, hr2, ht2, hz2, hc2.drew⟩
        case measure => simp [intOf]; omega
    · obtain rfl : n = 64 := by omega
      have hsz : (relArr (unionR r t 64)).size = 64 := relArr_size _
      have hce := relArr_cells (unionR r t 64)
      obtain ⟨C, hC⟩ : ∃ C, relArr (unionR r t 64) = C := ⟨_, rfl⟩
      have HC := Lib.hid hC
      rw [hC] at hsz hce hr
      obtain ⟨Z, hZ⟩ : ∃ Z, (relArr fun _ => 0) = Z := ⟨_, rfl⟩
      have hzz : Z.size = 64 := by rw [← hZ]; exact relArr_size _
      rw [hZ] at hz
      clear hC hZ
      go_wp2_with (first | (refine wpList_load_row rfl 40 (.tmp 2) rfl w.heap.size rfl 40 C (0, 0) _ hr rfl rfl (by rw [hsz]; kernel_rfl) ?_) | (refine wpList_store_row rfl 40 (.tmp 4) (.tmp 18) rfl (w.heap.size + 1 + 1) C rfl rfl 40 _ hz (by rw [hsz]; kernel_rfl) (by rw [hzz, hsz]) hce ?_))
      have hz3 := hz.row C
      have hc3 := hc.setRow (w.heap.size + 1 + 1) C (fun h => by omega)
      exact bodyPost_ret (v := .agg C) (results_cell_row rfl _ _ (w.heap.size + 1 + 1) 40 C (0, 0) _ rfl hz3 rfl rfl (by rw [hsz]; kernel_rfl)) rfl ⟨by rw [HC.out], hc3⟩

/-- Warshall's steps. -/
def innerC (r : Nat → Nat) (k : Nat) : Nat → (Nat → Nat)
  | 0 => r
  | i + 1 => if hasS (innerC r k i i) (k : Int) then rowSet (innerC r k i) i (innerC r k i i ||| innerC r k i k) else innerC r k i
def closeR (r : Nat → Nat) : Nat → (Nat → Nat)
  | 0 => r
  | k + 1 => innerC (closeR r k) k 64
theorem innerC_ok {r : Nat → Nat} (h : RelOK r) (k : Nat) : ∀ i, RelOK (innerC r k i)
  | 0 => h
  | i + 1 => by
    unfold innerC
    split
    · exact rowSet_ok (innerC_ok h k i) _ _ (or_ok (innerC_ok h k i _) (innerC_ok h k i _))
    · exact innerC_ok h k i
theorem closeR_ok {r : Nat → Nat} (h : RelOK r) : ∀ k, RelOK (closeR r k)
  | 0 => h
  | k + 1 => innerC_ok (closeR_ok h k) k 64
/-- Does one never come back? -/
def acyR (r : Nat → Nat) : Bool := (List.range 64).all fun i => !hasS (closeR r 64 i) (i : Int)
theorem index_rel (r : Nat → Nat) (i : Nat) (hi : i < 64) (w : World) : (Instr.index 40 (.agg (relArr r)) (.int .i64 i)).run Tryd.prog w = .ok (.int .u64 (r i)) w :=
  run_index_one (e := 38) (len := 64) (by kernel_rfl) w (by kernel_rfl) (by kernel_rfl) _ _ _ _ (by omega) (by omega) (arrOf_get _ _ _ hi)
end Go.Proofs.YtlhfpnkfapghoaaDoor
end

section
/- Relations of numbers below 64: more of what the program's functions come to. No condition but each theorem's own. -/
set_option linter.unusedVariables false
set_option linter.unusedSimpArgs false
namespace Go.Proofs.YtlhfpnkfapghoaaDoor
open Go.RowKit
attribute [local go_sem ↓] zero_rel

/-- Is each row within the other one's? -/
def withinR (r t : Nat → Nat) : Bool := (List.range 64).all fun i => withinS (r i) (t i)
set_option maxRecDepth 100000 in
theorem within_rel (r t : Nat → Nat) (okr : RelOK r) (okt : RelOK t) (w : World) : Calls Tryd.prog 23 #[.agg (relArr r), .agg (relArr t)] w fun e w' => e = .returned (.bool (withinR r t)) ∧ Ch nob w w' := by
  obtain ⟨hr1, ht1, hc1, hs1⟩ := two_new w (relArr r) (relArr t) 40 40
  go_enter Tryd.func23, Tryd.ntmps23
  go_wp2_with (refine wpList_load_row rfl 40 (.tmp 2) rfl w.heap.size rfl 40 (relArr r) (0, 0) _ hr1 rfl rfl (by rw [relArr_size]; kernel_rfl) ?_)
  generalize (w.alloc _).alloc _ = w1 at hr1 ht1 hc1 hs1 ⊢
  have HA := Lib.hid (show withinR r t = (List.range 64).all fun i => withinS (r i) (t i) from rfl)
  go_loop [8] (fun q => ∃ i : Nat, q = .int .i64 i ∧ i ≤ 64 ∧ Hid (∀ j, j < i → withinS (r j) (t j) = true)) (fun q => 64 - (intOf q).toNat)
  case atStart => exact ⟨0, rfl, by omega, Lib.hid (fun j hj => by omega)⟩
  case round =>
    obtain ⟨i, rfl, hi, hn⟩ := hrel
    by_cases hlt : i < 64
    · have hix := index_rel r i hlt
      have hx := ht1.relAt i hlt
      have oi := okr i
      have oj := okt i
      go_wp2_with fail
      refine (within_set (r i) (t i) _ oi oj).mono ?_
      rintro e w3 ⟨rfl, rfl⟩
      cases hh : withinS (r i) (t i)
      · have HF := Lib.hid (show withinR r t = false from by
          rw [HA.out, List.all_eq_false]
          exact ⟨i, by simpa using hlt, by simp [hh]⟩)
        clear hh
        go_wp2_with fail
        go_ret
        exact ⟨ret_bool HF.out.symm, hc1⟩
      · have hn2 : Hid (∀ j, j < i + 1 → withinS (r j) (t j) = true) := Lib.hid (fun j hj => by
          by_cases h : j = i
          · rw [h]; exact hh
          · exact hn.out j (by omega))
        clear hh
        go_wp2_with fail
        go_round
        case rel => exact ⟨i + 1, by go_num, by omega, hn2⟩
        case measure => simp [intOf]; omega
    · have HF := Lib.hid (show withinR r t = true from by
        rw [HA.out, List.all_eq_true]
        intro j hj
        rw [List.mem_range] at hj
        exact hn.out j (by omega))
      go_wp2_with fail
      go_ret
      exact ⟨ret_bool HF.out.symm, hc1⟩

/-- 'Add'. -/
def addR (r : Nat → Nat) (a b : Int) : Nat → Nat := if inS a && inS b then rowSet r a.toNat (withS (r a.toNat) b) else r
theorem addR_ok {r : Nat → Nat} (h : RelOK r) (a b : Int) : RelOK (addR r a b) := by
  unfold addR
  split
  · exact rowSet_ok h _ _ (withS_lt _ _ (h _))
  · exact h
set_option maxRecDepth 100000 in
theorem add_rel (r : Nat → Nat) (ok : RelOK r) (g : Nat) (a b : Int) (w : World) (hb : Blk w g (relArr r) 40) :
    Calls Tryd.prog 19 #[.pointer (some ⟨g, 0, none⟩), .int .i64 a, .int .i64 b] w fun e w' => e = .returned (.bool (inS a && inS b)) ∧ Blk w' g (relArr (addR r a b)) 40 ∧ Ch (· = g) w w' := by
  by_cases h : (0 ≤ a ∧ a < 64) ∧ (0 ≤ b ∧ b < 64)
  · obtain ⟨⟨h0, h1⟩, h2, h3⟩ := h
    obtain ⟨n, rfl⟩ := Int.eq_ofNat_of_zero_le h0
    have hx := hb.relAt n (by omega)
    have hf := hb.free n
    have hlt := ok n
    have d1 : decide ((n : Int) < 0) = false := decide_eq_false (by omega)
    have d2 : decide ((64 : Int) ≤ (n : Int)) = false := decide_eq_false (by omega)
    have d3 : decide (b < 0) = false := decide_eq_false (by omega)
    have d4 : decide (64 ≤ b) = false := decide_eq_false (by omega)
    have hin : (inS (n : Int) && inS b) = true := by unfold inS; rw [decide_eq_true (by omega), decide_eq_true (by omega)]; rfl
    have HB := hb.relSet n (withS (r n) b)
    have HE := Lib.hid (show addR r (n : Int) b = rowSet r n (withS (r n) b) from by unfold addR; rw [hin]; rfl)
    rw [← HE.out] at HB
    have hch : Ch (· = g) w (w.setCell ⟨g, n, none⟩ (.int .u64 (withS (r n) b : Nat))) := (Ch.refl _ _).setCell _ _ (fun _ => rfl)
    have HI := Lib.hid hin
    clear hb hin
    go_enter Tryd.func19, Tryd.ntmps19
    go_wp2_with fail
    go_region_with (go_at_call 76; refine (with_set (r n) b _ hlt).mono ?_; rintro e w2 ⟨rfl, rfl⟩)
    all_goals
      go_wp2_with fail
      go_ret
      exact ⟨ret_bool HI.out.symm, HB.drew, hch.drew⟩
  · have hin : (inS a && inS b) = false := by
      unfold inS
      rw [Bool.and_eq_false_iff, decide_eq_false_iff_not, decide_eq_false_iff_not]
      omega
    have HI := Lib.hid hin
    have hb2 : Blk w g (relArr (addR r a b)) 40 := by unfold addR; rw [hin]; exact hb
    clear hb hin ok
    have hways : a < 0 ∨ (0 ≤ a ∧ 64 ≤ a) ∨ (0 ≤ a ∧ a < 64 ∧ b < 0) ∨ (0 ≤ a ∧ a < 64 ∧ 0 ≤ b ∧ 64 ≤ b) := by omega
    clear h
    rcases hways with h | ⟨h1, h2⟩ | ⟨h1, h2, h3⟩ | ⟨h1, h2, h3, h4⟩
    · have d1 : decide (a < 0) = true := decide_eq_true (by omega)
      go_enter Tryd.func19, Tryd.ntmps19
      go_wp2_with fail
      go_ret
      exact ⟨ret_bool HI.out.symm, hb2, Ch.refl _ _⟩
    · have d1 : decide (a < 0) = false := decide_eq_false (by omega)
      have d2 : decide ((64 : Int) ≤ a) = true := decide_eq_true (by omega)
      go_enter Tryd.func19, Tryd.ntmps19
      go_wp2_with fail
      go_ret
      exact ⟨ret_bool HI.out.symm, hb2, Ch.refl _ _⟩
    · have d1 : decide (a < 0) = false := decide_eq_false (by omega)
      have d2 : decide ((64 : Int) ≤ a) = false := decide_eq_false (by omega)
      have d3 : decide (b < 0) = true := decide_eq_true (by omega)
      go_enter Tryd.func19, Tryd.ntmps19
      go_wp2_with fail
      go_ret
      exact ⟨ret_bool HI.out.symm, hb2, Ch.refl _ _⟩
    · have d1 : decide (a < 0) = false := decide_eq_false (by omega)
      have d2 : decide ((64 : Int) ≤ a) = false := decide_eq_false (by omega)
      have d3 : decide (b < 0) = false := decide_eq_false (by omega)
      have d4 : decide (64 ≤ b) = true := decide_eq_true (by omega)
      go_enter Tryd.func19, Tryd.ntmps19
      go_wp2_with fail
      go_ret
      exact ⟨ret_bool HI.out.symm, hb2, Ch.refl _ _⟩
end Go.Proofs.YtlhfpnkfapghoaaDoor
end

section
/- Relations of numbers below 64: one behind the other, turned, and of a row. No condition but each theorem's own. -/
set_option linter.unusedVariables false
set_option linter.unusedSimpArgs false
namespace Go.Proofs.YtlhfpnkfapghoaaDoor
open Go.RowKit
attribute [local go_sem ↓] zero_rel

theorem listS_at (s k : Nat) (h : k < (listS s).length) : ∃ m : Nat, (listS s).getD k 0 = (m : Int) ∧ m < 64 := by
  unfold listS at h ⊢
  rw [List.length_map] at h
  rw [List.getD_eq_getElem?_getD, List.getElem?_map, List.getElem?_eq_getElem h]
  exact ⟨(Bits.list s)[k], rfl, ((Bits.mem_list s _).1 (List.getElem_mem h)).1⟩
/-- The rows of some numbers, put together. -/
def orTo (t : Nat → Nat) (l : List Int) (n : Nat) : Nat := (l.take n).foldl (fun acc k => acc ||| t k.toNat) 0
theorem orTo_zero (t : Nat → Nat) (l : List Int) : orTo t l 0 = 0 := rfl
theorem orTo_succ (t : Nat → Nat) (l : List Int) (n : Nat) (h : n < l.length) : orTo t l (n + 1) = orTo t l n ||| t (l.getD n 0).toNat := by
  unfold orTo
  rw [List.take_add_one, List.getElem?_eq_getElem h, List.foldl_append, List.getD_eq_getElem?_getD, List.getElem?_eq_getElem h]
  rfl
theorem orTo_lt {t : Nat → Nat} (ok : RelOK t) (l : List Int) (n : Nat) : orTo t l n < 18446744073709551616 := by
  unfold orTo
  suffices h : ∀ (xs : List Int) (a : Nat), a < 18446744073709551616 → xs.foldl (fun acc k => acc ||| t k.toNat) a < 18446744073709551616 from h _ 0 (by decide)
  intro xs
  induction xs with
  | nil => intro a ha; exact ha
  | cons x xs ih => intro a ha; exact ih _ (or_ok ha (ok _))
def thenR (r t : Nat → Nat) : Nat → Nat := fun i => orTo t (listS (r i)) (listS (r i)).length
theorem thenR_ok (r : Nat → Nat) {t : Nat → Nat} (ok : RelOK t) : RelOK (thenR r t) := fun i => orTo_lt ok _ _
def thenAt (r t : Nat → Nat) (i j : Nat) : Nat → Nat := fun k => if k < i then thenR r t k else if k = i then orTo t (listS (r i)) j else 0
theorem thenAt_start (r t : Nat → Nat) : thenAt r t 0 0 = fun _ => 0 := by
  funext k
  unfold thenAt
  rw [if_neg (by omega), orTo_zero]
  split <;> rfl
theorem thenAt_here (r t : Nat → Nat) (i j : Nat) : thenAt r t i j i = orTo t (listS (r i)) j := by unfold thenAt; rw [if_neg (by omega), if_pos rfl]
theorem thenAt_step (r t : Nat → Nat) (i j : Nat) (h : j < (listS (r i)).length) : rowSet (thenAt r t i j) i (orTo t (listS (r i)) j ||| t ((listS (r i)).getD j 0).toNat) = thenAt r t i (j + 1) := by
  funext k
  unfold rowSet
  by_cases hk : k = i
  · subst hk
    rw [if_pos rfl, thenAt_here, orTo_succ t _ j h]
  · rw [if_neg hk]
    unfold thenAt
    rw [if_neg hk, if_neg hk]
theorem thenAt_next (r t : Nat → Nat) (i : Nat) : thenAt r t i (listS (r i)).length = thenAt r t (i + 1) 0 := by
  funext k
  unfold thenAt
  by_cases h : k < i
  · rw [if_pos h, if_pos (by omega)]
  · by_cases h2 : k = i
    · subst h2
      rw [if_neg h, if_pos rfl, if_pos (by omega)]; rfl
    · rw [if_neg h, if_neg h2, if_neg (by omega), orTo_zero]
      split <;> rfl
theorem thenAt_end (r t : Nat → Nat) : relArr (thenAt r t 64 0) = relArr (thenR r t) := relArr_ext fun k hk => by unfold thenAt; rw [if_pos hk]
theorem four_new (w : World) (a b c d : Array Value) (T : TypeId) : Blk ((((w.alloc (.cells a T)).alloc (.cells b T)).alloc (.cells c T)).alloc (.cells d T)) w.heap.size a T ∧ Blk ((((w.alloc (.cells a T)).alloc (.cells b T)).alloc (.cells c T)).alloc (.cells d T)) (w.heap.size + 1) b T ∧ Blk ((((w.alloc (.cells a T)).alloc (.cells b T)).alloc (.cells c T)).alloc (.cells d T)) (w.heap.size + 1 + 1) c T ∧ Blk ((((w.alloc (.cells a T)).alloc (.cells b T)).alloc (.cells c T)).alloc (.cells d T)) (w.heap.size + 1 + 1 + 1) d T ∧ Ch nob w ((((w.alloc (.cells a T)).alloc (.cells b T)).alloc (.cells c T)).alloc (.cells d T)) := by
  obtain ⟨h1, h2, h3, h4⟩ := two_new w a b T T
  obtain ⟨k1, k2, k3, k4⟩ := two_new ((w.alloc (.cells a T)).alloc (.cells b T)) c d T T
  rw [h4] at k1 k2
  exact ⟨h1.ch k3 (fun h => h), h2.ch k3 (fun h => h), k1, k2, h3.seq k3⟩

set_option maxRecDepth 100000 in
theorem then_rel (r t : Nat → Nat) (okr : RelOK r) (okt : RelOK t) (w : World) (hT : Tab w) : Calls Tryd.prog 104 #[.agg (relArr r), .agg (relArr t)] w fun e w' => e = .returned (.agg (relArr (thenR r t))) ∧ Ch nob w w' := by
  obtain ⟨hr1, ht1, hz1, ho1, hc1⟩ := four_new w (relArr r) (relArr t) (relArr fun _ => 0) (relArr fun _ => 0) 40
  go_enter Tryd.func104, Tryd.ntmps104
  go_wp2_with (refine wpList_load_row rfl 40 (.tmp 2) rfl w.heap.size rfl 40 (relArr r) (0, 0) _ hr1 rfl rfl (by rw [relArr_size]; kernel_rfl) ?_)
  generalize (((w.alloc _).alloc _).alloc _).alloc _ = w1 at hr1 ht1 hz1 ho1 hc1 ⊢
  clear hr1
  rw [← thenAt_start r t] at ho1
  go_loopw [11] (fun q wr => ∃ i : Nat, q = .int .i64 i ∧ i ≤ 64 ∧ Blk wr (w.heap.size + 1) (relArr t) 40 ∧ Blk wr (w.heap.size + 1 + 1) (relArr fun _ => 0) 40 ∧ Blk wr (w.heap.size + 1 + 1 + 1) (relArr (thenAt r t i 0)) 40 ∧ Ch nob w wr) (fun q _ => 64 - (intOf q).toNat)
  case atStart => exact ⟨0, rfl, by omega, ht1, hz1, ho1, hc1⟩
  case round =>
    clear ht1 hz1 ho1 hc1
    obtain ⟨i, rfl, hi, ht, hz, ho, hc⟩ := hrel
    by_cases hlt : i < 64
    · have hd : decide ((i : Int) < 64) = true := decide_eq_true (by omega)
      have hix := index_rel r i hlt
      have oi := okr i
      have HN := Lib.hid (thenAt_next r t i)
      go_wp2_with fail
      refine (list_set (r i) _ oi (hT.keep hc)).mono ?_
      rintro e w2 ⟨v, rfl, hov, hc2⟩
      have hl := Lib.hid hov.ints
      obtain ⟨A, cc, rfl⟩ := hl.out.shape
      have hlo := ho.lt
      have HB := Lib.hid (show ∀ b, (Value.slice A (listS (r i)).length cc).ownBlock = some b → w.heap.size + 1 + 1 + 1 < b from fun b hb => by have := (hov.ge b hb).1; omega)
      have ht2 := ht.ch hc2 (fun h => h)
      have hz2 := hz.ch hc2 (fun h => h)
      have ho2 := ho.ch hc2 (fun h => h)
      have hc3 := hc.seq hc2
      clear ht hz ho hc hc2 hov
      go_wp2_with fail
      go_loopw [18] (fun q wr => ∃ j : Nat, q = .int .i64 j ∧ j ≤ (listS (r i)).length ∧ Blk wr (w.heap.size + 1) (relArr t) 40 ∧ Blk wr (w.heap.size + 1 + 1) (relArr fun _ => 0) 40 ∧ Blk wr (w.heap.size + 1 + 1 + 1) (relArr (thenAt r t i j)) 40 ∧ Ints wr (.slice A (listS (r i)).length cc) (listS (r i)) ∧ Ch nob w wr) (fun q _ => (listS (r i)).length - (intOf q).toNat)
      case atStart => exact ⟨0, rfl, by omega, ht2, hz2, ho2, hl.out, hc3⟩
      case round =>
        clear ht2 hz2 ho2 hl hc3
        obtain ⟨j, rfl, hj, ht, hz, ho, hl, hc⟩ := hrel
        by_cases hltj : j < (listS (r i)).length
        · have hd2 : decide ((j : Int) < ((listS (r i)).length : Int)) = true := decide_eq_true (by omega)
          obtain ⟨_, _, hcells⟩ := hl.at
          obtain ⟨ad, rfl, hx⟩ := hcells j hltj
          clear hcells
          obtain ⟨m, hm, hm64⟩ := listS_at (r i) j hltj
          have HS := Lib.hid (thenAt_step r t i j hltj)
          rw [hm] at hx HS
          have hxa := ho.relAt i hlt
          rw [thenAt_here] at hxa
          have hxb := ht.relAt m hm64
          have hf := ho.free i
          have hor := Bits.or_u64 (orTo t (listS (r i)) j) (t m) (orTo_lt okt _ _) (okt m)
          have ho3 := ho.relSet i (orTo t (listS (r i)) j ||| t m)
          have HE := Lib.hid (show rowSet (thenAt r t i j) i (orTo t (listS (r i)) j ||| t m) = thenAt r t i (j + 1) from HS.out)
          rw [HE.out] at ho3
          generalize orTo t (listS (r i)) j = q at hxa hor ho3 ⊢
          have hch : Ch (· = w.heap.size + 1 + 1 + 1) wr (wr.setCell ⟨w.heap.size + 1 + 1 + 1, i, none⟩ (.int .u64 (q ||| t m : Nat))) := (Ch.refl _ _).setCell _ _ (fun _ => rfl)
          have ht3 := ht.ch hch (by omega)
          have hz3 := hz.ch hch (by omega)
          have hl3 := hl.ch hch (fun b hb he => by have h1 := HB.out b hb; have h2 : b = w.heap.size + 1 + 1 + 1 := he; omega)
          have hc3 := hc.setCell ⟨w.heap.size + 1 + 1 + 1, i, none⟩ (.int .u64 (q ||| t m : Nat)) (fun h => by simp at h; omega)
          clear ht hz ho hl hc hch hm HS HE
          go_wp2_with fail
          go_region_with fail
          all_goals
            go_wp2_with fail
            go_roundw
            case rel => exact ⟨j + 1, by go_num, by omega, ht3, hz3, ho3, hl3, hc3.drew⟩
            case measure => simp [intOf]; omega
        · obtain rfl : j = (listS (r i)).length := by omega
          rw [HN.out] at ho
          go_wp2_with fail
          go_roundw
          case rel => exact ⟨i + 1, by go_num, by omega, ht, hz, ho, hc⟩
          case measure => simp [intOf]; omega
    · obtain rfl : i = 64 := by omega
      rw [thenAt_end] at ho
      have hsz : (relArr (thenR r t)).size = 64 := relArr_size _
      have hce := relArr_cells (thenR r t)
      obtain ⟨C, hC⟩ : ∃ C, relArr (thenR r t) = C := ⟨_, rfl⟩
      have HC := Lib.hid hC
      rw [hC] at hsz hce ho
      obtain ⟨Z, hZ⟩ : ∃ Z, (relArr fun _ => 0) = Z := ⟨_, rfl⟩
      have hzz : Z.size = 64 := by rw [← hZ]; exact relArr_size _
      rw [hZ] at hz
      clear hC hZ
      go_wp2_with (first | (refine wpList_load_row rfl 40 (.tmp 5) rfl (w.heap.size + 1 + 1 + 1) rfl 40 C (0, 0) _ ho rfl rfl (by rw [hsz]; kernel_rfl) ?_) | (refine wpList_store_row rfl 40 (.tmp 4) (.tmp 32) rfl (w.heap.size + 1 + 1) C rfl rfl 40 _ hz (by rw [hsz]; kernel_rfl) (by rw [hzz, hsz]) hce ?_))
      have hz3 := hz.row C
      have hc3 := hc.setRow (w.heap.size + 1 + 1) C (fun h => by omega)
      exact bodyPost_ret (v := .agg C) (results_cell_row rfl _ _ (w.heap.size + 1 + 1) 40 C (0, 0) _ rfl hz3 rfl rfl (by rw [hsz]; kernel_rfl)) rfl ⟨by rw [HC.out], hc3⟩
end Go.Proofs.YtlhfpnkfapghoaaDoor
end

section
/- Relations of numbers below 64: turned. No condition but each theorem's own. -/
set_option linter.unusedVariables false
set_option linter.unusedSimpArgs false
namespace Go.Proofs.YtlhfpnkfapghoaaDoor
open Go.RowKit
attribute [local go_sem ↓] zero_rel

theorem three_new (w : World) (a b c : Array Value) (T : TypeId) : Blk (((w.alloc (.cells a T)).alloc (.cells b T)).alloc (.cells c T)) w.heap.size a T ∧ Blk (((w.alloc (.cells a T)).alloc (.cells b T)).alloc (.cells c T)) (w.heap.size + 1) b T ∧ Blk (((w.alloc (.cells a T)).alloc (.cells b T)).alloc (.cells c T)) (w.heap.size + 1 + 1) c T ∧ Ch nob w (((w.alloc (.cells a T)).alloc (.cells b T)).alloc (.cells c T)) := by
  obtain ⟨h1, h2, h3, h4⟩ := two_new w a b T T
  obtain ⟨k1, k2, k3⟩ := one_new ((w.alloc (.cells a T)).alloc (.cells b T)) c T
  rw [h4] at k1
  exact ⟨h1.ch k2 (fun h => h), h2.ch k2 (fun h => h), k1, h3.seq k2⟩
/-- Each of some numbers stands to i. -/
def turnRow (s : Nat → Nat) (i : Nat) (l : List Int) (n : Nat) : Nat → Nat := (l.take n).foldl (fun acc k => addR acc k (i : Int)) s
theorem turnRow_zero (s : Nat → Nat) (i : Nat) (l : List Int) : turnRow s i l 0 = s := rfl
theorem turnRow_succ (s : Nat → Nat) (i : Nat) (l : List Int) (n : Nat) (h : n < l.length) : turnRow s i l (n + 1) = addR (turnRow s i l n) (l.getD n 0) (i : Int) := by
  unfold turnRow
  rw [List.take_add_one, List.getElem?_eq_getElem h, List.foldl_append, List.getD_eq_getElem?_getD, List.getElem?_eq_getElem h]
  rfl
theorem turnRow_ok {s : Nat → Nat} (ok : RelOK s) (i : Nat) (l : List Int) (n : Nat) : RelOK (turnRow s i l n) := by
  unfold turnRow
  suffices h : ∀ (xs : List Int) (s : Nat → Nat), RelOK s → RelOK (xs.foldl (fun acc k => addR acc k (i : Int)) s) from h _ _ ok
  intro xs
  induction xs with
  | nil => intro s hs; exact hs
  | cons x xs ih => intro s hs; exact ih _ (addR_ok hs _ _)
def turnTo (r : Nat → Nat) : Nat → (Nat → Nat)
  | 0 => fun _ => 0
  | i + 1 => turnRow (turnTo r i) i (listS (r i)) (listS (r i)).length
theorem turnTo_ok (r : Nat → Nat) : ∀ i, RelOK (turnTo r i)
  | 0 => fun _ => by show 0 < _; decide
  | i + 1 => turnRow_ok (turnTo_ok r i) _ _ _
set_option maxRecDepth 100000 in
theorem turned_rel (r : Nat → Nat) (okr : RelOK r) (w : World) (hT : Tab w) : Calls Tryd.prog 90 #[.agg (relArr r)] w fun e w' => e = .returned (.agg (relArr (turnTo r 64))) ∧ Ch nob w w' := by
  obtain ⟨hr1, hz1, ho1, hc1⟩ := three_new w (relArr r) (relArr fun _ => 0) (relArr fun _ => 0) 40
  go_enter Tryd.func90, Tryd.ntmps90
  go_wp2_with (refine wpList_load_row rfl 40 (.tmp 1) rfl w.heap.size rfl 40 (relArr r) (0, 0) _ hr1 rfl rfl (by rw [relArr_size]; kernel_rfl) ?_)
  generalize ((w.alloc _).alloc _).alloc _ = w1 at hr1 hz1 ho1 hc1 ⊢
  clear hr1
  go_loopw [9] (fun q wr => ∃ i : Nat, q = .int .i64 i ∧ i ≤ 64 ∧ Blk wr (w.heap.size + 1) (relArr fun _ => 0) 40 ∧ Blk wr (w.heap.size + 1 + 1) (relArr (turnTo r i)) 40 ∧ Ch nob w wr) (fun q _ => 64 - (intOf q).toNat)
  case atStart => exact ⟨0, rfl, by omega, hz1, ho1, hc1⟩
  case round =>
    clear hz1 ho1 hc1
    obtain ⟨i, rfl, hi, hz, ho, hc⟩ := hrel
    by_cases hlt : i < 64
    · have hd : decide ((i : Int) < 64) = true := decide_eq_true (by omega)
      have hix := index_rel r i hlt
      have oi := okr i
      have okt := turnTo_ok r i
      have HN := Lib.hid (show turnTo r (i + 1) = turnRow (turnTo r i) i (listS (r i)) (listS (r i)).length from rfl)
      obtain ⟨s, hse⟩ : ∃ s, turnTo r i = s := ⟨_, rfl⟩
      rw [hse] at ho okt HN
      clear hse
      go_wp2_with fail
      refine (list_set (r i) _ oi (hT.keep hc)).mono ?_
      rintro e w2 ⟨v, rfl, hov, hc2⟩
      have hl := hov.ints
      obtain ⟨A, cc, rfl⟩ := hl.shape
      have hlo := ho.lt
      have HB := Lib.hid (show ∀ b, (Value.slice A (listS (r i)).length cc).ownBlock = some b → w.heap.size + 1 + 1 < b from fun b hb => by have := (hov.ge b hb).1; omega)
      have hz2 := hz.ch hc2 (fun h => h)
      have ho2 := ho.ch hc2 (fun h => h)
      have hc3 := hc.seq hc2
      clear hz ho hc hc2 hov
      go_wp2_with fail
      go_loopw [16] (fun q wr => ∃ j : Nat, q = .int .i64 j ∧ j ≤ (listS (r i)).length ∧ Blk wr (w.heap.size + 1) (relArr fun _ => 0) 40 ∧ Blk wr (w.heap.size + 1 + 1) (relArr (turnRow s i (listS (r i)) j)) 40 ∧ Ints wr (.slice A (listS (r i)).length cc) (listS (r i)) ∧ Ch nob w wr) (fun q _ => (listS (r i)).length - (intOf q).toNat)
      case atStart => exact ⟨0, rfl, by omega, hz2, ho2, hl, hc3⟩
      case round =>
        clear hz2 ho2 hl hc3
        obtain ⟨j, rfl, hj, hz, ho, hl, hc⟩ := hrel
        by_cases hltj : j < (listS (r i)).length
        · have hd2 : decide ((j : Int) < ((listS (r i)).length : Int)) = true := decide_eq_true (by omega)
          obtain ⟨_, _, hcells⟩ := hl.at
          obtain ⟨ad, rfl, hx⟩ := hcells j hltj
          clear hcells
          have HS := Lib.hid (turnRow_succ s i (listS (r i)) j hltj)
          generalize (listS (r i)).getD j 0 = z at hx HS
          go_wp2_with fail
          refine (add_rel _ (turnRow_ok okt i (listS (r i)) j) (w.heap.size + 1 + 1) z (i : Int) _ ho).mono ?_
          rintro e w3 ⟨rfl, ho3, hch⟩
          rw [← HS.out] at ho3
          have hz3 := hz.ch hch (by omega)
          have hl3 := hl.ch hch (fun b hb he => by have h1 := HB.out b hb; have h2 : b = w.heap.size + 1 + 1 := he; omega)
          have hc3 := hc.fresh hch (by omega)
          clear hz ho hl hc hch hx
          go_wp2_with fail
          go_roundw
          case rel => exact ⟨j + 1, by go_num, by omega, hz3, ho3, hl3, hc3⟩
          case measure => simp [intOf]; omega
        · obtain rfl : j = (listS (r i)).length := by omega
          rw [← HN.out] at ho
          go_wp2_with fail
          go_roundw
          case rel => exact ⟨i + 1, by go_num, by omega, hz, ho, hc⟩
          case measure => simp [intOf]; omega
    · obtain rfl : i = 64 := by omega
      have hsz : (relArr (turnTo r 64)).size = 64 := relArr_size _
      have hce := relArr_cells (turnTo r 64)
      obtain ⟨C, hC⟩ : ∃ C, relArr (turnTo r 64) = C := ⟨_, rfl⟩
      have HC := Lib.hid hC
      rw [hC] at hsz hce ho
      obtain ⟨Z, hZ⟩ : ∃ Z, (relArr fun _ => 0) = Z := ⟨_, rfl⟩
      have hzz : Z.size = 64 := by rw [← hZ]; exact relArr_size _
      rw [hZ] at hz
      clear hC hZ
      go_wp2_with (first | (refine wpList_load_row rfl 40 (.tmp 3) rfl (w.heap.size + 1 + 1) rfl 40 C (0, 0) _ ho rfl rfl (by rw [hsz]; kernel_rfl) ?_) | (refine wpList_store_row rfl 40 (.tmp 2) (.tmp 25) rfl (w.heap.size + 1) C rfl rfl 40 _ hz (by rw [hsz]; kernel_rfl) (by rw [hzz, hsz]) hce ?_))
      have hz3 := hz.row C
      have hc3 := hc.setRow (w.heap.size + 1) C (fun h => by omega)
      exact bodyPost_ret (v := .agg C) (results_cell_row rfl _ _ (w.heap.size + 1) 40 C (0, 0) _ rfl hz3 rfl rfl (by rw [hsz]; kernel_rfl)) rfl ⟨by rw [HC.out], hc3⟩
end Go.Proofs.YtlhfpnkfapghoaaDoor
end

section
/- Plain law: Warshall's steps come to the least transitive relation. No condition. -/
set_option linter.unusedVariables false
set_option linter.unusedSimpArgs false
namespace Go.Proofs.YtlhfpnkfapghoaaDoor
open Go.RowKit

/-- Warshall's relation, in words. -/
def War (E : Nat → Nat → Prop) : Nat → Nat → Nat → Prop
  | 0, i, j => E i j
  | k + 1, i, j => War E k i j ∨ (War E k i k ∧ War E k k j)
theorem War.sub {E : Nat → Nat → Prop} : ∀ k i j, E i j → War E k i j
  | 0, _, _, h => h
  | k + 1, i, j, h => .inl (War.sub k i j h)
theorem War.least {E T : Nat → Nat → Prop} (hE : ∀ i j, E i j → T i j) (hT : ∀ i j k, T i j → T j k → T i k) : ∀ k i j, War E k i j → T i j
  | 0, i, j, h => hE i j h
  | k + 1, i, j, .inl h => War.least hE hT k i j h
  | k + 1, i, j, .inr ⟨h1, h2⟩ => hT i k j (War.least hE hT k i k h1) (War.least hE hT k k j h2)
theorem War.trans {E : Nat → Nat → Prop} : ∀ k i m j, m < k → War E k i m → War E k m j → War E k i j
  | 0, _, _, _, h, _, _ => absurd h (by omega)
  | k + 1, i, m, j, hm, h1, h2 => by
    by_cases e : m = k
    · subst e
      have a : War E m i m := by rcases h1 with h | ⟨h, _⟩ <;> exact h
      have b : War E m m j := by rcases h2 with h | ⟨_, h⟩ <;> exact h
      exact .inr ⟨a, b⟩
    · have hk : m < k := by omega
      rcases h1 with h1 | ⟨h1, h1'⟩ <;> rcases h2 with h2 | ⟨h2, h2'⟩
      · exact .inl (War.trans k i m j hk h1 h2)
      · exact .inr ⟨War.trans k i m k hk h1 h2, h2'⟩
      · exact .inr ⟨h1, War.trans k k m j hk h1' h2⟩
      · exact .inr ⟨h1, h2'⟩
theorem innerC_row (r : Nat → Nat) (k : Nat) : ∀ i j, innerC r k i j = if j < i then (if hasS (r j) (k : Int) then r j ||| r k else r j) else r j
  | 0, j => by simp [innerC]
  | i + 1, j => by
    have hk : innerC r k i k = r k := by
      rw [innerC_row r k i k]
      split
      · split <;> simp
      · rfl
    have hi : innerC r k i i = r i := by rw [innerC_row r k i i, if_neg (by omega)]
    unfold innerC
    rw [hi, hk]
    by_cases hh : hasS (r i) (k : Int) = true
    · rw [if_pos hh]
      unfold rowSet
      by_cases e : j = i
      · subst e
        rw [if_pos rfl, if_pos (by omega), if_pos hh]
      · rw [if_neg e, innerC_row r k i j]
        by_cases h2 : j < i
        · simp [h2, show j < i + 1 from by omega]
        · simp [h2, show ¬ j < i + 1 from by omega]
    · rw [if_neg hh, innerC_row r k i j]
      by_cases e : j = i
      · subst e
        rw [if_neg (by omega), if_pos (by omega), if_neg hh]
      · by_cases h2 : j < i
        · simp [h2, show j < i + 1 from by omega]
        · simp [h2, show ¬ j < i + 1 from by omega]

theorem hasS_nat (s k : Nat) (hk : k < 64) : hasS s (k : Int) = s.testBit k := by
  unfold hasS inS
  rw [decide_eq_true (by omega)]
  simp
/-- What the steps come to, bit by bit. -/
theorem closeR_war (r : Nat → Nat) : ∀ k, k ≤ 64 → ∀ i j, i < 64 → j < 64 → ((closeR r k i).testBit j = true ↔ War (fun a b => (r a).testBit b = true) k i j)
  | 0, _, i, j, _, _ => Iff.rfl
  | k + 1, hk, i, j, hi, hj => by
    have ih := closeR_war r k (by omega)
    show (innerC (closeR r k) k 64 i).testBit j = true ↔ _
    rw [innerC_row, if_pos hi, hasS_nat _ _ (by omega)]
    unfold War
    rw [← ih i j hi hj, ← ih i k hi (by omega), ← ih k j (by omega) hj]
    by_cases h : (closeR r k i).testBit k = true
    · rw [if_pos h, Nat.testBit_or, Bool.or_eq_true]
      simp [h]
    · rw [if_neg h]
      simp [h]
end Go.Proofs.YtlhfpnkfapghoaaDoor
end

section
/- Slices of pairs of ints, and the reference's relations over them. No condition but each theorem's own. -/
set_option linter.unusedVariables false
set_option linter.unusedSimpArgs false
namespace Go.Proofs.YtlhfpnkfapghoaaDoor
open Go.RowKit

abbrev IPair := Int × Int
/-- A slice value reads as this list of pairs; nil and empty ones alike. -/
def Pairs (w : World) (v : Value) (xs : List IPair) : Prop :=
  ∃ A c, v = .slice A xs.length c ∧ xs.length ≤ 9223372036854775807 ∧ (0 < xs.length → ∃ ad, A = some ad ∧ ∀ j, j < xs.length → w.cell? (ad.add (j * 2)) = some (.int .i64 (xs.getD j (0, 0)).1) ∧ w.cell? ⟨(ad.add (j * 2)).block, (ad.add (j * 2)).off + 1, none⟩ = some (.int .i64 (xs.getD j (0, 0)).2))
theorem Pairs.ch {S : Nat → Prop} {w w' : World} {v : Value} {xs : List IPair} (h : Pairs w v xs) (hc : Ch S w w') (hn : ∀ b, v.ownBlock = some b → ¬ S b) : Pairs w' v xs := by
  obtain ⟨A, c, rfl, hl, hx⟩ := h
  refine ⟨A, c, rfl, hl, fun h0 => ?_⟩
  obtain ⟨ad, rfl, hcell⟩ := hx h0
  refine ⟨ad, rfl, fun j hj => ?_⟩
  have keep : ∀ p v, p.block = ad.block → w.cell? p = some v → w'.cell? p = some v := fun p v hp h1 => by
    have hb := World.block_lt_of_cell? w _ h1
    rw [hp] at hb
    exact (World.cell?_of_block (by rw [hp]; exact hc.block _ hb (hn _ rfl))).trans h1
  exact ⟨keep _ _ (add_block _ _) (hcell j hj).1, keep _ _ (add_block _ _) (hcell j hj).2⟩
theorem Pairs.keep {w w' : World} {v : Value} {xs : List IPair} (h : Pairs w v xs) (hc : Ch nob w w') : Pairs w' v xs := h.ch hc (fun _ _ h => h)
theorem Pairs.shape {w : World} {v : Value} {xs : List IPair} (h : Pairs w v xs) : ∃ A c, v = .slice A xs.length c := by
  obtain ⟨A, c, rfl, _, _⟩ := h; exact ⟨A, c, rfl⟩
theorem Pairs.at {w : World} {A : Option Addr} {c n : Nat} {xs : List IPair} (h : Pairs w (.slice A n c) xs) : n = xs.length ∧ xs.length ≤ 9223372036854775807 ∧ ∀ j, j < xs.length → ∃ ad, A = some ad ∧ w.cell? (ad.add (j * 2)) = some (.int .i64 (xs.getD j (0, 0)).1) ∧ w.cell? ⟨(ad.add (j * 2)).block, (ad.add (j * 2)).off + 1, none⟩ = some (.int .i64 (xs.getD j (0, 0)).2) := by
  obtain ⟨A', c', hv, hl, hx⟩ := h
  simp only [Value.slice.injEq] at hv
  obtain ⟨rfl, rfl, rfl⟩ := hv
  refine ⟨rfl, hl, fun j hj => ?_⟩
  obtain ⟨ad, h1, h2⟩ := hx (by omega)
  exact ⟨ad, h1, h2 j hj⟩

def hasP (l : List IPair) (a b : Int) : Bool := l.any fun p => p.1 == a && p.2 == b
theorem has_ref02 (v : Value) (l : List IPair) (a b : Int) (w : World) (hl : Pairs w v l) : Calls Tryd.prog 67 #[v, .int .i64 a, .int .i64 b] w fun e w' => e = .returned (.bool (hasP l a b)) ∧ w = w' := by
  obtain ⟨A, c, rfl⟩ := hl.shape
  obtain ⟨_, hlen, hcells⟩ := hl.at
  have HC := Lib.hid hcells
  clear hcells hl
  go_enter Tryd.func67, Tryd.ntmps67
  go_wp2_with fail
  go_loop [7] (fun q => ∃ i : Nat, q = .int .i64 i ∧ i ≤ l.length ∧ Hid (∀ j, j < i → ((l.getD j (0, 0)).1 == a && (l.getD j (0, 0)).2 == b) = false)) (fun q => l.length - (intOf q).toNat)
  case atStart => exact ⟨0, rfl, by omega, Lib.hid (fun j hj => by omega)⟩
  case round =>
    obtain ⟨i, rfl, hi, hn⟩ := hrel
    by_cases hlt : i < l.length
    · have hd : decide ((i : Int) < (l.length : Int)) = true := decide_eq_true (by omega)
      obtain ⟨ad, rfl, hx, hy⟩ := HC.out i hlt
      obtain ⟨p, hp⟩ : ∃ p, l.getD i (0, 0) = p := ⟨_, rfl⟩
      rw [hp] at hx hy
      have HP := Lib.hid hp
      clear hp
      cases h1 : p.1 == a
      · have hn2 : Hid (∀ j, j < i + 1 → ((l.getD j (0, 0)).1 == a && (l.getD j (0, 0)).2 == b) = false) := Lib.hid (fun j hj => by
          by_cases h : j = i
          · rw [h, HP.out, h1]; rfl
          · exact hn.out j (by omega))
        go_wp2_with fail
        go_round
        case rel => exact ⟨i + 1, by go_num, by omega, hn2⟩
        case measure => simp [intOf]; omega
      · cases h2 : p.2 == b
        · have hn2 : Hid (∀ j, j < i + 1 → ((l.getD j (0, 0)).1 == a && (l.getD j (0, 0)).2 == b) = false) := Lib.hid (fun j hj => by
            by_cases h : j = i
            · rw [h, HP.out, h1, h2]; rfl
            · exact hn.out j (by omega))
          go_wp2_with fail
          go_round
          case rel => exact ⟨i + 1, by go_num, by omega, hn2⟩
          case measure => simp [intOf]; omega
        · have HF := Lib.hid (show hasP l a b = true from by
            unfold hasP
            rw [List.any_eq_true]
            refine ⟨p, ?_, by rw [h1, h2]; rfl⟩
            have := HP.out
            rw [List.getD_eq_getElem?_getD, List.getElem?_eq_getElem hlt] at this
            rw [← this]
            exact List.getElem_mem hlt)
          go_wp2_with fail
          go_ret
          exact ⟨ret_bool HF.out.symm, rfl⟩
    · have HF := Lib.hid (show hasP l a b = false from by
        unfold hasP
        rw [List.any_eq_false]
        intro p hp
        obtain ⟨j, hj, rfl⟩ := List.getElem_of_mem hp
        have := hn.out j (by omega)
        rw [List.getD_eq_getElem?_getD, List.getElem?_eq_getElem hj] at this
        simpa using this)
      have hd : decide ((i : Int) < (l.length : Int)) = false := decide_eq_false (by omega)
      go_wp2_with fail
      go_ret
      exact ⟨ret_bool HF.out.symm, rfl⟩

def rightP (a b : Int) : Bool := inS a && inS b
end Go.Proofs.YtlhfpnkfapghoaaDoor
end

section
/- Rows of a call's own that hold pairs of ints. No condition but each theorem's own. -/
set_option linter.unusedVariables false
set_option linter.unusedSimpArgs false
namespace Go.Proofs.YtlhfpnkfapghoaaDoor
open Go.RowKit

theorem add_snd (ad : Addr) (j : Nat) : (⟨(ad.add (j * 2)).block, (ad.add (j * 2)).off + 1, none⟩ : Addr) = ad.add (j * 2 + 1) := by
  unfold Addr.add
  rw [if_neg (show ¬ j * 2 + 1 = 0 by omega)]
  by_cases h : j = 0
  · subst h
    simp
  · rw [if_neg (show ¬ j * 2 = 0 by omega)]
    simp [Nat.add_assoc]
/-- The cells of some pairs. -/
def flat : List IPair → List Value
  | [] => []
  | p :: l => .int .i64 p.1 :: .int .i64 p.2 :: flat l
theorem flat_len (l : List IPair) : (flat l).length = l.length * 2 := by
  induction l with
  | nil => rfl
  | cons p l ih => simp only [flat, List.length_cons, ih]; omega
theorem flat_append (a b : List IPair) : flat (a ++ b) = flat a ++ flat b := by
  induction a with
  | nil => rfl
  | cons p l ih => simp only [List.cons_append, flat, ih]
theorem flat_at (l : List IPair) : ∀ j, j < l.length → (flat l)[j * 2]? = some (.int .i64 (l.getD j (0, 0)).1) ∧ (flat l)[j * 2 + 1]? = some (.int .i64 (l.getD j (0, 0)).2) := by
  induction l with
  | nil => intro j h; simp at h
  | cons p l ih =>
    intro j h
    cases j with
    | zero => exact ⟨rfl, rfl⟩
    | succ j =>
      have := ih j (by simpa using h)
      rw [show (j + 1) * 2 = j * 2 + 2 from by omega]
      simpa [flat] using this
/-- A row of the call's own as a list of pairs. -/
def OwnP (w : World) (base e : Nat) (v : Value) (xs : List IPair) : Prop := w.ownsRow base e 2 v xs.length (flat xs) ∧ xs.length ≤ 9223372036854775807
theorem OwnP.pairs {w : World} {base e : Nat} {v : Value} {xs : List IPair} (h : OwnP w base e v xs) : Pairs w v xs := by
  obtain ⟨h, hle⟩ := h
  have h0 := h.2
  rcases h0 with ⟨hv, hn⟩ | ⟨g, cap, cur, hv, hb, hg, hle2, hcap, hsz, htake⟩
  · have : xs = [] := List.eq_nil_of_length_eq_zero hn
    subst this
    exact ⟨none, 0, hv, by simp, fun h => absurd h (by simp)⟩
  · refine ⟨_, _, hv, hle, fun h0 => ⟨_, rfl, fun j hj => ?_⟩⟩
    have hc := World.ownsRow.cells h (g := g) (by rw [hv]; rfl)
    have hf := flat_at xs j hj
    rw [add_snd]
    exact ⟨hc _ _ hf.1, hc _ _ hf.2⟩
theorem OwnP.nil (w : World) (base e : Nat) : OwnP w base e (.slice none 0 0) [] := ⟨World.ownsRow_nil w base e 2, by simp⟩
theorem OwnP.grown {w w' : World} {base e : Nat} {v : Value} {xs : List IPair} (h : OwnP w base e v xs) {row : Option Nat} (hg : w.grownBy w' row) (hne : ∀ b, v.ownBlock = some b → row ≠ some b) : OwnP w' base e v xs :=
  ⟨World.ownsRow.kept h.1 hg (by
    cases hv : v.ownBlock with
    | none => exact .inl rfl
    | some b => exact .inr fun he => hne b hv he.symm), h.2⟩
theorem OwnP.keep {w w' : World} {base e : Nat} {v : Value} {xs : List IPair} (h : OwnP w base e v xs) (hc : Ch nob w w') : OwnP w' base e v xs := h.grown (grown_of_ch hc none) (fun _ _ h => by cases h)
theorem OwnP.ge {w : World} {base e : Nat} {v : Value} {xs : List IPair} (h : OwnP w base e v xs) (b : Nat) (hb : v.ownBlock = some b) : base ≤ b ∧ b < w.heap.size := World.ownsRow.lt h.1 b hb
theorem OwnP.alloc {w : World} {base e : Nat} {v : Value} {xs : List IPair} (h : OwnP w base e v xs) (o : Obj) : OwnP (w.alloc o) base e v xs := ⟨World.ownsRow.alloc h.1 o, h.2⟩
theorem OwnP.made (w : World) (base e : Nat) (hb : base ≤ w.heap.size) : OwnP (w.alloc (.cells #[] e)) base e (.slice (some ⟨w.heap.size, 0, none⟩) 0 0) [] :=
  ⟨World.ownsRow_made w #[] 0 hb (by unfold maxLen; omega) (by simp), by simp⟩
theorem elem_pair : ElemOK Tryd.prog 25 66 (.agg #[.int .i64 0, .int .i64 0]) 2 16 := ⟨by kernel_rfl, by kernel_rfl⟩
/-- 'append(s, Pair{a, b})'. -/
theorem wpList_append_pair {P : Program} {w : World} {ops : Array Oper} {rest : List Oper} {o : Oper} {a : Act} {Q : Exit → Act → World → Prop} (hgd : o.guard = none) (s x : Operand) (t e : TypeId)
    (ho : o.op = .call { callee := .builtin .append, args := #[s, x], argTypes := #[t, t] }) (he : ElemOK P t e (.agg #[.int .i64 0, .int .i64 0]) 2 16)
    (base : Nat) (v : Value) (xs : List IPair) (hs : a.eval s = v) (hown : OwnP w base e v xs)
    (g : Nat) (m n : Int) (T : TypeId) (hx : a.eval x = .slice (some ⟨g, 0, none⟩) 1 1) (hb : Blk w g #[.int .i64 m, .int .i64 n] T) (hn : xs.length ≤ 1000000) (hbase : base ≤ w.heap.size)
    (h : ∀ v' w', OwnP w' base e v' (xs ++ [(m, n)]) → w.grownBy w' v.ownBlock → wpList P ops Q rest (a.put o.dst v') w') : wpList P ops Q (o :: rest) a w :=
  wpList_append1 hgd s x t e ho (.agg #[.int .i64 0, .int .i64 0]) 2 16 he rfl (by decide) (by decide) base v xs.length _ hs hown.1 g #[.int .i64 m, .int .i64 n] T hx hb rfl (by intro u hu; simp at hu; rcases hu with rfl | rfl <;> rfl) (by omega) hbase
    fun v' w' h1 h2 => h v' w' ⟨by rw [List.length_append, flat_append]; exact h1, by rw [List.length_append]; simp; omega⟩ h2
/-- 'append(s, l...)': pairs that are read behind a row of the call's own. -/
theorem wpList_append_pairs {P : Program} {w : World} {ops : Array Oper} {rest : List Oper} {o : Oper} {a : Act} {Q : Exit → Act → World → Prop} (hgd : o.guard = none) (s x : Operand) (t e : TypeId)
    (ho : o.op = .call { callee := .builtin .append, args := #[s, x], argTypes := #[t, t] }) (he : ElemOK P t e (.agg #[.int .i64 0, .int .i64 0]) 2 16)
    (base : Nat) (v : Value) (xs : List IPair) (hs : a.eval s = v) (hown : OwnP w base e v xs)
    (ad : Addr) (c : Nat) (ys : List IPair) (hx : a.eval x = .slice (some ad) ys.length c) (hsrc : Pairs w (.slice (some ad) ys.length c) ys) (hn : xs.length ≤ 1000000) (hm : ys.length ≤ 1000000) (hbase : base ≤ w.heap.size)
    (h : ∀ v' w', OwnP w' base e v' (xs ++ ys) → w.grownBy w' v.ownBlock → wpList P ops Q rest (a.put o.dst v') w') : wpList P ops Q (o :: rest) a w := by
  obtain ⟨i, hi, hz0, hz1, hz2⟩ := he.get
  have hcell : ∀ j u, (flat ys)[j]? = some u → w.cell? (ad.add j) = some u := by
    intro j u hu
    have hj : j < ys.length * 2 := by
      have := (List.getElem?_eq_some_iff.1 hu).1
      rwa [flat_len] at this
    obtain ⟨_, _, hcells⟩ := hsrc.at
    obtain ⟨ad', had, h1, h2⟩ := hcells (j / 2) (by omega)
    obtain rfl : ad = ad' := by simpa using had
    have hf := flat_at ys (j / 2) (by omega)
    rw [add_snd] at h2
    by_cases hp : j % 2 = 0
    · have : j / 2 * 2 = j := by omega
      rw [this] at h1 hf
      rw [h1, ← hf.1, hu]
    · have : j / 2 * 2 + 1 = j := by omega
      rw [this] at h2 hf
      rw [h2, ← hf.2, hu]
  refine wpList_append_own w hgd s x t ho base e i (.agg #[.int .i64 0, .int .i64 0]) 2 16 he.under hi hz0 hz1 hz2 rfl (by decide) v xs.length _ hs hown.1 ad ys.length c (flat ys) hx (flat_len _) hcell ?_ (by unfold maxLen; omega) (by omega) hbase (fun v' w' h1 h2 _ => h v' w' ⟨by rw [List.length_append, flat_append]; exact h1, by rw [List.length_append]; omega⟩ h2)
  intro u hu
  have : ∀ l : List IPair, ∀ u ∈ flat l, u.oneCell' = true := by
    intro l
    induction l with
    | nil => intro u hu; cases hu
    | cons p l ih =>
      intro u hu
      simp only [flat, List.mem_cons] at hu
      rcases hu with rfl | rfl | hu
      · rfl
      · rfl
      · exact ih u hu
  exact this ys u hu

/-- 'Put': with a pair, once. -/
def putP (l : List IPair) (a b : Int) : List IPair := if hasP l a b then l else l ++ [(a, b)]
theorem put_ref02 (v : Value) (l : List IPair) (a b : Int) (w : World) (hl : Pairs w v l) (hn : l.length ≤ 1000000) : Calls Tryd.prog 58 #[v, .int .i64 a, .int .i64 b] w fun e w' => ∃ u, e = .returned u ∧ Pairs w' u (putP l a b) ∧ Ch nob w w' := by
  obtain ⟨A, c, rfl⟩ := hl.shape
  have HL := Lib.hid hl
  clear hl
  go_enter Tryd.func58, Tryd.ntmps58
  go_wp2_with fail
  refine (has_ref02 _ l a b _ HL.out).mono ?_
  rintro e w1 ⟨rfl, rfl⟩
  cases hh : hasP l a b
  · have HP := Lib.hid (show putP l a b = l ++ [(a, b)] from by unfold putP; rw [hh]; rfl)
    clear hh
    have hm0 := OwnP.made w w.heap.size 66 (Nat.le_refl _)
    have hc0 := (Ch.refl nob w).alloc (.cells #[] 66)
    have hl0 := HL.out.keep hc0
    cases A with
    | none =>
      have hnil : l = [] := by
        cases l with
        | nil => rfl
        | cons p l =>
          obtain ⟨_, _, hcells⟩ := HL.out.at
          obtain ⟨ad, h, _⟩ := hcells 0 (by simp)
          cases h
      subst hnil
      have hof := Lib.hid (hm0.alloc (.cells #[.int .i64 a, .int .i64 b] 66))
      have hc3 := Lib.hid (hc0.alloc (.cells #[.int .i64 a, .int .i64 b] 66))
      have hnb := Lib.hid (Blk.new (w.alloc (.cells #[] 66)) #[.int .i64 a, .int .i64 b] 66)
      have hge := hc3.out.size
      have hsz : (w.alloc (.cells #[] 66)).heap.size = w.heap.size + 1 := by simp
      rw [hsz] at hnb
      clear hm0 hc0 hl0 hsz
      go_wp2_with (at_builtin; refine wpList_append_pair rfl (.tmp 14) (.tmp 18) 25 66 rfl elem_pair w.heap.size _ [] rfl hof.out (w.heap.size + 1) a b 66 rfl hnb.out (by simp) (by omega) ?_; intro v3 w3 hown3 hg3; have hc5 := hc3.out.grown_own hg3 (fun b hb => (hof.out.ge b hb).1); clear hg3)
      go_ret
      exact ⟨_, rfl, by rw [HP.out]; exact hown3.pairs, hc5⟩
    | some ad =>
      go_wp2_with (first
        | (at_builtin; refine wpList_append_pairs rfl (.tmp 12) (.tmp 13) 25 66 rfl elem_pair w.heap.size _ [] rfl hm0 ad c l rfl hl0 (by simp) hn (by simp) ?_; intro v2 w2 hown hg; rw [List.nil_append] at hown; have hc2 := hc0.grown_own hg (fun b hb => (hm0.ge b hb).1); have hof := Lib.hid (hown.alloc (.cells #[.int .i64 a, .int .i64 b] 66)); have hc3 := Lib.hid (hc2.alloc (.cells #[.int .i64 a, .int .i64 b] 66)); have hnb := Lib.hid (Blk.new w2 #[.int .i64 a, .int .i64 b] 66); have hge := hc3.out.size; clear hown hg hc2)
        | (at_builtin; refine wpList_append_pair rfl (.tmp 14) (.tmp 18) 25 66 rfl elem_pair w.heap.size _ l rfl hof.out _ a b 66 rfl hnb.out (by omega) (by omega) ?_; intro v3 w3 hown3 hg3; have hc5 := hc3.out.grown_own hg3 (fun b hb => (hof.out.ge b hb).1); clear hg3))
      go_ret
      exact ⟨_, rfl, by rw [HP.out]; exact hown3.pairs, hc5⟩
  · have HP := Lib.hid (show putP l a b = l from by unfold putP; rw [hh]; rfl)
    clear hh
    go_wp2_with fail
    go_ret
    exact ⟨_, rfl, by rw [HP.out]; exact HL.out, Ch.refl _ _⟩
end Go.Proofs.YtlhfpnkfapghoaaDoor
end

section
/- The reference's relations over pairs: one behind the other. No condition but each theorem's own. -/
set_option linter.unusedVariables false
set_option linter.unusedSimpArgs false
namespace Go.Proofs.YtlhfpnkfapghoaaDoor
open Go.RowKit

/-- One step of 'Then': by the pair p, and the pair q behind it. -/
def thenStep (p : IPair) (out : List IPair) (q : IPair) : List IPair := if p.2 == q.1 then putP out p.1 q.2 else out
def thenIn (p : IPair) (m : List IPair) (out : List IPair) (k : Nat) : List IPair := (m.take k).foldl (thenStep p) out
def thenP (l m : List IPair) (i : Nat) : List IPair := (l.take i).foldl (fun out p => thenIn p m out m.length) []
theorem thenIn_zero (p : IPair) (m out : List IPair) : thenIn p m out 0 = out := rfl
theorem thenIn_succ (p : IPair) (m out : List IPair) (k : Nat) (h : k < m.length) : thenIn p m out (k + 1) = thenStep p (thenIn p m out k) (m.getD k (0, 0)) := by
  unfold thenIn
  rw [List.take_add_one, List.getElem?_eq_getElem h, List.foldl_append, List.getD_eq_getElem?_getD, List.getElem?_eq_getElem h]
  rfl
theorem thenP_succ (l m : List IPair) (i : Nat) (h : i < l.length) : thenP l m (i + 1) = thenIn (l.getD i (0, 0)) m (thenP l m i) m.length := by
  unfold thenP
  rw [List.take_add_one, List.getElem?_eq_getElem h, List.foldl_append, List.getD_eq_getElem?_getD, List.getElem?_eq_getElem h]
  rfl
theorem putP_len (l : List IPair) (a b : Int) : (putP l a b).length ≤ l.length + 1 := by
  unfold putP
  split <;> simp
theorem thenStep_len (p : IPair) (out : List IPair) (q : IPair) : (thenStep p out q).length ≤ out.length + 1 := by
  unfold thenStep
  split
  · exact putP_len _ _ _
  · omega
theorem thenIn_len (p : IPair) (m out : List IPair) (k : Nat) : (thenIn p m out k).length ≤ out.length + k := by
  induction k with
  | zero => simp [thenIn]
  | succ k ih =>
    by_cases h : k < m.length
    · rw [thenIn_succ p m out k h]
      have := thenStep_len p (thenIn p m out k) (m.getD k (0, 0))
      omega
    · have : thenIn p m out (k + 1) = thenIn p m out k := by unfold thenIn; rw [List.take_of_length_le (by omega), List.take_of_length_le (by omega)]
      rw [this]; omega
theorem thenP_len (l m : List IPair) (i : Nat) : (thenP l m i).length ≤ i * m.length := by
  induction i with
  | zero => simp [thenP]
  | succ i ih =>
    by_cases h : i < l.length
    · rw [thenP_succ l m i h]
      have := thenIn_len (l.getD i (0, 0)) m (thenP l m i) m.length
      rw [Nat.succ_mul]; omega
    · have : thenP l m (i + 1) = thenP l m i := by unfold thenP; rw [List.take_of_length_le (by omega), List.take_of_length_le (by omega)]
      rw [this, Nat.succ_mul]; omega

end Go.Proofs.YtlhfpnkfapghoaaDoor
end

section
/- Plain law: pairs put together, once each; one step of the closure. No condition. -/
set_option linter.unusedVariables false
set_option linter.unusedSimpArgs false
namespace Go.Proofs.YtlhfpnkfapghoaaDoor
open Go.RowKit

theorem hasP_iff (l : List IPair) (a b : Int) : hasP l a b = true ↔ (a, b) ∈ l := by
  unfold hasP
  rw [List.any_eq_true]
  constructor
  · rintro ⟨⟨x, y⟩, h, hp⟩
    simp only [Bool.and_eq_true, beq_iff_eq] at hp
    rw [← hp.1, ← hp.2]; exact h
  · intro h
    exact ⟨(a, b), h, by simp⟩
theorem mem_putP (l : List IPair) (a b : Int) (x : IPair) : x ∈ putP l a b ↔ x ∈ l ∨ x = (a, b) := by
  unfold putP
  by_cases h : hasP l a b = true
  · rw [if_pos h]
    constructor
    · exact .inl
    · rintro (h2 | rfl)
      · exact h2
      · exact (hasP_iff l a b).1 h
  · rw [if_neg h]; simp
theorem nodup_putP (l : List IPair) (a b : Int) (h : l.Nodup) : (putP l a b).Nodup := by
  unfold putP
  by_cases hh : hasP l a b = true
  · rw [if_pos hh]; exact h
  · rw [if_neg hh, List.nodup_append]
    refine ⟨h, by simp, ?_⟩
    intro x hx y hy
    simp only [List.mem_singleton] at hy
    subst hy
    intro e
    subst e
    exact hh ((hasP_iff l a b).2 hx)

theorem mem_thenStep (p : IPair) (out : List IPair) (q x : IPair) : x ∈ thenStep p out q ↔ x ∈ out ∨ (p.2 = q.1 ∧ x = (p.1, q.2)) := by
  unfold thenStep
  by_cases h : (p.2 == q.1) = true
  · rw [if_pos h, mem_putP]
    have : p.2 = q.1 := by simpa using h
    simp [this]
  · rw [if_neg h]
    have : ¬ p.2 = q.1 := by simpa using h
    simp [this]
theorem mem_foldStep (p x : IPair) : ∀ (m out : List IPair), x ∈ m.foldl (thenStep p) out ↔ x ∈ out ∨ ∃ q ∈ m, p.2 = q.1 ∧ x = (p.1, q.2)
  | [], out => by simp
  | q :: m, out => by
    rw [List.foldl_cons, mem_foldStep p x m, mem_thenStep]
    constructor
    · rintro ((h | h) | ⟨q', h1, h2⟩)
      · exact .inl h
      · exact .inr ⟨q, by simp, h⟩
      · exact .inr ⟨q', by simp [h1], h2⟩
    · rintro (h | ⟨q', h1, h2⟩)
      · exact .inl (.inl h)
      · rcases List.mem_cons.1 h1 with rfl | h1
        · exact .inl (.inr h2)
        · exact .inr ⟨q', h1, h2⟩
theorem mem_foldThen (m : List IPair) (x : IPair) : ∀ (l out : List IPair), x ∈ l.foldl (fun out p => thenIn p m out m.length) out ↔ x ∈ out ∨ ∃ p ∈ l, ∃ q ∈ m, p.2 = q.1 ∧ x = (p.1, q.2)
  | [], out => by simp
  | p :: l, out => by
    rw [List.foldl_cons, mem_foldThen m x l]
    unfold thenIn
    rw [List.take_length, mem_foldStep]
    constructor
    · rintro ((h | h) | ⟨p', h1, h2⟩)
      · exact .inl h
      · exact .inr ⟨p, by simp, h⟩
      · exact .inr ⟨p', by simp [h1], h2⟩
    · rintro (h | ⟨p', h1, h2⟩)
      · exact .inl (.inl h)
      · rcases List.mem_cons.1 h1 with rfl | h1
        · exact .inl (.inr h2)
        · exact .inr ⟨p', h1, h2⟩
theorem mem_thenP (l m : List IPair) (x : IPair) : x ∈ thenP l m l.length ↔ ∃ p ∈ l, ∃ q ∈ m, p.2 = q.1 ∧ x = (p.1, q.2) := by
  unfold thenP
  rw [List.take_length, mem_foldThen]
  simp

/-- Pairs put one by one behind others. -/
def addTo (out more : List IPair) (k : Nat) : List IPair := (more.take k).foldl (fun o p => putP o p.1 p.2) out
theorem addTo_zero (out more : List IPair) : addTo out more 0 = out := rfl
theorem addTo_succ (out more : List IPair) (k : Nat) (h : k < more.length) : addTo out more (k + 1) = putP (addTo out more k) (more.getD k (0, 0)).1 (more.getD k (0, 0)).2 := by
  unfold addTo
  rw [List.take_add_one, List.getElem?_eq_getElem h, List.foldl_append, List.getD_eq_getElem?_getD, List.getElem?_eq_getElem h]
  rfl
theorem mem_foldPut (x : IPair) : ∀ (more out : List IPair), x ∈ more.foldl (fun o p => putP o p.1 p.2) out ↔ x ∈ out ∨ x ∈ more
  | [], out => by simp
  | p :: more, out => by
    rw [List.foldl_cons, mem_foldPut x more, mem_putP, List.mem_cons, or_assoc]
theorem mem_addTo (out more : List IPair) (x : IPair) : x ∈ addTo out more more.length ↔ x ∈ out ∨ x ∈ more := by
  unfold addTo
  rw [List.take_length, mem_foldPut]
theorem nodup_foldPut : ∀ (more out : List IPair), out.Nodup → (more.foldl (fun o p => putP o p.1 p.2) out).Nodup
  | [], out, h => h
  | p :: more, out, h => nodup_foldPut more _ (nodup_putP out _ _ h)
theorem nodup_addTo (out more : List IPair) (k : Nat) (h : out.Nodup) : (addTo out more k).Nodup := nodup_foldPut _ _ h
theorem putP_ge (l : List IPair) (a b : Int) : l.length ≤ (putP l a b).length := by
  unfold putP
  split <;> simp
theorem foldPut_ge : ∀ (more out : List IPair), out.length ≤ (more.foldl (fun o p => putP o p.1 p.2) out).length
  | [], out => Nat.le_refl _
  | p :: more, out => Nat.le_trans (putP_ge out _ _) (foldPut_ge more _)
theorem foldPut_same : ∀ (more out : List IPair), (more.foldl (fun o p => putP o p.1 p.2) out).length = out.length → ∀ x ∈ more, x ∈ out
  | [], out, _, x, hx => by cases hx
  | p :: more, out, h, x, hx => by
    rw [List.foldl_cons] at h
    have h1 := foldPut_ge more (putP out p.1 p.2)
    have h2 := putP_ge out p.1 p.2
    have h3 : (putP out p.1 p.2).length = out.length := by omega
    have hp : p ∈ out := by
      by_cases hh : hasP out p.1 p.2 = true
      · exact (hasP_iff _ _ _).1 hh
      · unfold putP at h3; rw [if_neg hh] at h3; simp at h3
    have h4 : putP out p.1 p.2 = out := by unfold putP; rw [if_pos ((hasP_iff _ _ _).2 hp)]
    rw [h4] at h
    rcases List.mem_cons.1 hx with rfl | hx
    · exact hp
    · exact foldPut_same more out h x hx

theorem nodup_le : ∀ (a b : List IPair), a.Nodup → (∀ x ∈ a, x ∈ b) → a.length ≤ b.length
  | [], b, _, _ => by simp
  | x :: a, b, h, hs => by
    have hx : x ∈ b := hs x (by simp)
    rw [List.nodup_cons] at h
    have := nodup_le a (b.erase x) h.2 (fun y hy => by
      have hne : y ≠ x := fun e => h.1 (e ▸ hy)
      exact (List.mem_erase_of_ne hne).2 (hs y (by simp [hy])))
    rw [List.length_erase_of_mem hx] at this
    have hpos : 0 < b.length := List.length_pos_of_mem hx
    rw [List.length_cons]
    omega
end Go.Proofs.YtlhfpnkfapghoaaDoor
end

section
/- Plain law: relations bit by bit, and as pairs. No condition but each theorem's own. -/
set_option linter.unusedVariables false
set_option linter.unusedSimpArgs false
namespace Go.Proofs.YtlhfpnkfapghoaaDoor
open Go.RowKit

theorem nodup_len {α : Type} [DecidableEq α] : ∀ (a b : List α), a.Nodup → (∀ x ∈ a, x ∈ b) → a.length ≤ b.length
  | [], b, _, _ => by simp
  | x :: a, b, h, hs => by
    have hx : x ∈ b := hs x (by simp)
    rw [List.nodup_cons] at h
    have := nodup_len a (b.erase x) h.2 (fun y hy => by
      have hne : y ≠ x := fun e => h.1 (e ▸ hy)
      exact (List.mem_erase_of_ne hne).2 (hs y (by simp [hy])))
    rw [List.length_erase_of_mem hx] at this
    have hpos : 0 < b.length := List.length_pos_of_mem hx
    rw [List.length_cons]
    omega

theorem nodup_listN (s : Nat) : (Bits.list s).Nodup := List.Nodup.sublist List.filter_sublist List.nodup_range
/-- Does a stand to b? -/
abbrev E (r : Nat → Nat) (a b : Nat) : Prop := (r a).testBit b = true
theorem mem_listS (s : Nat) (n : Int) : n ∈ listS s ↔ hasS s n = true := by
  unfold listS hasS inS
  rw [List.mem_map]
  constructor
  · rintro ⟨i, hi, rfl⟩
    have := (Bits.mem_list s i).1 hi
    rw [decide_eq_true (by omega)]; simpa using this.2
  · intro h
    rw [Bool.and_eq_true] at h
    have h1 := of_decide_eq_true h.1
    exact ⟨n.toNat, (Bits.mem_list s _).2 ⟨by omega, h.2⟩, by omega⟩
theorem mem_listS_nat (s k : Nat) (hk : k < 64) : (k : Int) ∈ listS s ↔ s.testBit k = true := by rw [mem_listS, hasS_nat s k hk]
theorem of_mem_listS {s : Nat} {n : Int} (h : n ∈ listS s) : ∃ k : Nat, n = (k : Int) ∧ k < 64 ∧ s.testBit k = true := by
  rw [mem_listS] at h
  unfold hasS inS at h
  rw [Bool.and_eq_true] at h
  have h1 := of_decide_eq_true h.1
  exact ⟨n.toNat, by omega, by omega, h.2⟩
theorem orTo_bit (t : Nat → Nat) (l : List Int) (j : Nat) : (orTo t l l.length).testBit j = l.any fun k => (t k.toNat).testBit j := by
  unfold orTo
  rw [List.take_length]
  have : ∀ (l : List Int) (a : Nat), (l.foldl (fun acc k => acc ||| t k.toNat) a).testBit j = (a.testBit j || l.any fun k => (t k.toNat).testBit j) := by
    intro l
    induction l with
    | nil => intro a; simp
    | cons x l ih => intro a; rw [List.foldl_cons, ih, Nat.testBit_or, List.any_cons, Bool.or_assoc]
  rw [this, Nat.zero_testBit, Bool.false_or]
theorem orTo_list_bit (t : Nat → Nat) (s j : Nat) : (orTo t (listS s) (listS s).length).testBit j = true ↔ ∃ m, m < 64 ∧ s.testBit m = true ∧ E t m j := by
  rw [orTo_bit, List.any_eq_true]
  constructor
  · rintro ⟨k, hk, h⟩
    obtain ⟨m, rfl, hm, hb⟩ := of_mem_listS hk
    exact ⟨m, hm, hb, by simpa using h⟩
  · rintro ⟨m, hm, hb, h⟩
    exact ⟨m, (mem_listS_nat s m hm).2 hb, by simpa using h⟩
theorem hasR_nat (r : Nat → Nat) (a b : Nat) (ha : a < 64) (hb : b < 64) : hasR r (a : Int) (b : Int) = (r a).testBit b := by
  unfold hasR inS
  rw [decide_eq_true (by omega)]
  show (true && hasS (r a) b) = _
  rw [hasS_nat _ _ hb]; rfl
def sumTo (r : Nat → Nat) : Nat → Nat
  | 0 => 0
  | i + 1 => sumTo r i + Bits.count (r i)
theorem sumTo_le (r : Nat → Nat) : ∀ i, sumTo r i ≤ i * 64
  | 0 => Nat.le_refl _
  | i + 1 => by
    have h1 := sumTo_le r i
    have h2 : Bits.count (r i) ≤ 64 := Bits.list_len _
    unfold sumTo
    omega
def sameR (r : Nat → Nat) (l : List IPair) : Bool := (l.all fun p => hasR r p.1 p.2) && sumTo r 64 == l.length
theorem rowSet_get (r : Nat → Nat) (i s k : Nat) : rowSet r i s k = if k = i then s else r k := rfl
theorem testBit_with (s : Nat) (n : Int) (j : Nat) (hj : j < 64) : (withS s n).testBit j = (s.testBit j || decide (n = (j : Int))) := by
  unfold withS inS
  by_cases h : 0 ≤ n ∧ n < 64
  · rw [if_pos (decide_eq_true h), Bits.testBit_put]
    congr 1
    exact decide_eq_decide.2 (by omega)
  · rw [if_neg (by rw [decide_eq_false h]; decide), decide_eq_false (by omega)]; simp
theorem addR_bit (r : Nat → Nat) (a b : Int) (i j : Nat) (hi : i < 64) (hj : j < 64) : E (addR r a b) i j ↔ E r i j ∨ ((i : Int) = a ∧ (j : Int) = b) := by
  unfold addR
  by_cases h : (inS a && inS b) = true
  · rw [if_pos h]
    rw [Bool.and_eq_true] at h
    have h1 := of_decide_eq_true h.1
    have h2 := of_decide_eq_true h.2
    show (rowSet r a.toNat (withS (r a.toNat) b) i).testBit j = true ↔ _
    rw [rowSet_get]
    by_cases e : i = a.toNat
    · rw [if_pos e, testBit_with _ _ _ hj, Bool.or_eq_true, decide_eq_true_iff, e]
      constructor
      · rintro (h | h)
        · exact .inl h
        · exact .inr ⟨by omega, h.symm⟩
      · rintro (h | ⟨_, h⟩)
        · exact .inl h
        · exact .inr h.symm
    · rw [if_neg e]
      constructor
      · exact .inl
      · rintro (h | ⟨h, _⟩)
        · exact h
        · omega
  · rw [if_neg h]
    constructor
    · exact .inl
    · rintro (h' | ⟨h3, h4⟩)
      · exact h'
      · exfalso
        apply h
        unfold inS
        rw [Bool.and_eq_true]
        exact ⟨decide_eq_true (by omega), decide_eq_true (by omega)⟩
theorem hasR_iff (r : Nat → Nat) (a b : Int) : hasR r a b = true ↔ ∃ i j : Nat, a = i ∧ b = j ∧ i < 64 ∧ j < 64 ∧ E r i j := by
  constructor
  · intro h
    have h' := h
    unfold hasR at h'
    rw [Bool.and_eq_true] at h'
    have h1 := of_decide_eq_true h'.1
    have h2 := h'.2
    unfold hasS at h2
    rw [Bool.and_eq_true] at h2
    have h3 := of_decide_eq_true h2.1
    exact ⟨a.toNat, b.toNat, by omega, by omega, by omega, by omega, h2.2⟩
  · rintro ⟨i, j, rfl, rfl, hi, hj, he⟩
    rw [hasR_nat _ _ _ hi hj]; exact he
theorem unionR_bit (r t : Nat → Nat) (i j : Nat) (hi : i < 64) : E (unionR r t 64) i j ↔ E r i j ∨ E t i j := by
  show (unionR r t 64 i).testBit j = true ↔ _
  unfold unionR
  rw [if_pos hi, Nat.testBit_or, Bool.or_eq_true]
theorem thenR_bit (r t : Nat → Nat) (i j : Nat) : E (thenR r t) i j ↔ ∃ m, m < 64 ∧ E r i m ∧ E t m j := orTo_list_bit t (r i) j
theorem turnRow_bit (s : Nat → Nat) (i : Nat) (hi : i < 64) (a b : Nat) (ha : a < 64) (hb : b < 64) : ∀ (l : List Int), E (turnRow s i l l.length) a b ↔ E s a b ∨ ((a : Int) ∈ l ∧ b = i) := by
  intro l
  unfold turnRow
  rw [List.take_length]
  induction l generalizing s with
  | nil => simp
  | cons x l ih =>
    rw [List.foldl_cons, ih, addR_bit _ _ _ _ _ ha hb, List.mem_cons]
    constructor
    · rintro ((h | ⟨h1, h2⟩) | ⟨h1, h2⟩)
      · exact .inl h
      · exact .inr ⟨.inl h1, by omega⟩
      · exact .inr ⟨.inr h1, h2⟩
    · rintro (h | ⟨h1 | h1, h2⟩)
      · exact .inl (.inl h)
      · exact .inl (.inr ⟨h1, by omega⟩)
      · exact .inr ⟨h1, h2⟩
theorem turnTo_bit (r : Nat → Nat) (a b : Nat) (ha : a < 64) (hb : b < 64) : ∀ k, k ≤ 64 → (E (turnTo r k) a b ↔ b < k ∧ E r b a)
  | 0, _ => by
    constructor
    · intro h
      have h' : (0 : Nat).testBit b = true := h
      rw [Nat.zero_testBit] at h'; cases h'
    · rintro ⟨h, _⟩; omega
  | k + 1, hk => by
    show E (turnRow (turnTo r k) k (listS (r k)) (listS (r k)).length) a b ↔ _
    rw [turnRow_bit _ _ (by omega) _ _ ha hb, turnTo_bit r a b ha hb k (by omega), mem_listS_nat _ _ ha]
    constructor
    · rintro (⟨h1, h2⟩ | ⟨h1, rfl⟩)
      · exact ⟨by omega, h2⟩
      · exact ⟨by omega, h1⟩
    · rintro ⟨h1, h2⟩
      by_cases e : b = k
      · subst e; exact .inr ⟨h2, rfl⟩
      · exact .inl ⟨by omega, h2⟩
theorem turned_bit (r : Nat → Nat) (a b : Nat) (ha : a < 64) (hb : b < 64) : E (turnTo r 64) a b ↔ E r b a := by
  rw [turnTo_bit r a b ha hb 64 (Nat.le_refl _)]
  exact ⟨fun h => h.2, fun h => ⟨hb, h⟩⟩
theorem withinR_iff (r t : Nat → Nat) (okr : RelOK r) : withinR r t = true ↔ ∀ i j, i < 64 → j < 64 → E r i j → E t i j := by
  unfold withinR
  rw [List.all_eq_true]
  have within_iff : ∀ s t : Nat, s < 18446744073709551616 → (withinS s t = true ↔ ∀ j, j < 64 → s.testBit j = true → t.testBit j = true) := by
    intro s t hs
    unfold withinS
    rw [beq_iff_eq]
    constructor
    · intro h j _ hj
      have h1 : (s ^^^ (s &&& t)).testBit j = false := by rw [h]; exact Nat.zero_testBit j
      rw [Nat.testBit_xor, Nat.testBit_and, hj] at h1
      simpa using h1
    · intro h
      refine Nat.eq_of_testBit_eq fun j => ?_
      rw [Nat.testBit_xor, Nat.testBit_and, Nat.zero_testBit]
      by_cases hj : j < 64
      · cases hsj : s.testBit j with
        | false => simp
        | true => rw [h j hj hsj]; rfl
      · rw [Bits.high s j hs (by omega)]; rfl
  constructor
  · intro h i j hi hj he
    exact (within_iff _ _ (okr i)).1 (h i (List.mem_range.2 hi)) j hj he
  · intro h i hi
    exact (within_iff _ _ (okr i)).2 fun j hj he => h i j (List.mem_range.1 hi) hj he
theorem rel_ext {r t : Nat → Nat} (okr : RelOK r) (okt : RelOK t) (h : ∀ i j, i < 64 → j < 64 → (E r i j ↔ E t i j)) : ∀ i, i < 64 → r i = t i := fun i hi =>
  Bits.ext64 (okr i) (okt i) fun j hj => by
    have := h i j hi hj
    exact Bool.eq_iff_iff.2 this
/-- A relation's pairs, each once. -/
structure Is (r : Nat → Nat) (l : List IPair) : Prop where
  once : l.Nodup
  mem : ∀ a b : Int, (a, b) ∈ l ↔ hasR r a b = true
theorem Is.of_bits {r : Nat → Nat} {l : List IPair} (h : l.Nodup) (hin : ∀ a b : Int, (a, b) ∈ l → inS a = true ∧ inS b = true) (hb : ∀ i j : Nat, i < 64 → j < 64 → (((i : Int), (j : Int)) ∈ l ↔ E r i j)) : Is r l :=
  ⟨h, fun a b => by
    rw [hasR_iff]
    constructor
    · intro hm
      obtain ⟨h1, h2⟩ := hin a b hm
      have h1 := of_decide_eq_true h1
      have h2 := of_decide_eq_true h2
      refine ⟨a.toNat, b.toNat, by omega, by omega, by omega, by omega, (hb _ _ (by omega) (by omega)).1 ?_⟩
      rw [Int.toNat_of_nonneg h1.1, Int.toNat_of_nonneg h2.1]; exact hm
    · rintro ⟨i, j, rfl, rfl, hi, hj, he⟩
      exact (hb i j hi hj).2 he⟩
theorem Is.in {r : Nat → Nat} {l : List IPair} (h : Is r l) {a b : Int} (hm : (a, b) ∈ l) : inS a = true ∧ inS b = true := by
  obtain ⟨i, j, rfl, rfl, hi, hj, _⟩ := (hasR_iff r a b).1 ((h.mem a b).1 hm)
  unfold inS
  exact ⟨decide_eq_true (by omega), decide_eq_true (by omega)⟩
theorem Is.bit {r : Nat → Nat} {l : List IPair} (h : Is r l) {i j : Nat} (hi : i < 64) (hj : j < 64) : ((i : Int), (j : Int)) ∈ l ↔ E r i j := by
  rw [h.mem, hasR_nat _ _ _ hi hj]
/-- All pairs of a relation's first rows. -/
def pairsTo (r : Nat → Nat) : Nat → List IPair
  | 0 => []
  | i + 1 => pairsTo r i ++ (listS (r i)).map fun j => ((i : Int), j)
theorem pairsTo_len (r : Nat → Nat) : ∀ i, (pairsTo r i).length = sumTo r i
  | 0 => rfl
  | i + 1 => by
    unfold pairsTo sumTo
    rw [List.length_append, pairsTo_len r i, List.length_map]
    unfold listS Bits.count
    rw [List.length_map]
theorem mem_pairsTo (r : Nat → Nat) (a b : Int) : ∀ i, (a, b) ∈ pairsTo r i ↔ ∃ k : Nat, k < i ∧ a = k ∧ b ∈ listS (r k)
  | 0 => by simp [pairsTo]
  | i + 1 => by
    unfold pairsTo
    rw [List.mem_append, mem_pairsTo r a b i, List.mem_map]
    constructor
    · rintro (⟨k, hk, h⟩ | ⟨j, hj, h⟩)
      · exact ⟨k, by omega, h⟩
      · simp only [Prod.mk.injEq] at h
        obtain ⟨rfl, rfl⟩ := h
        exact ⟨i, by omega, rfl, hj⟩
    · rintro ⟨k, hk, rfl, h⟩
      by_cases e : k = i
      · subst e; exact .inr ⟨b, h, rfl⟩
      · exact .inl ⟨k, by omega, rfl, h⟩
theorem nodup_map {α β : Type} (f : α → β) (hf : ∀ a b, f a = f b → a = b) {l : List α} (h : l.Nodup) : (l.map f).Nodup := by
  unfold List.Nodup at *
  rw [List.pairwise_map]
  exact h.imp (fun hab e => hab (hf _ _ e))
theorem nodup_listS (s : Nat) : (listS s).Nodup := by
  unfold listS
  exact nodup_map _ (fun a b e => by omega) (nodup_listN s)
theorem nodup_pairsTo (r : Nat → Nat) : ∀ i, (pairsTo r i).Nodup
  | 0 => List.nodup_nil
  | i + 1 => by
    unfold pairsTo
    rw [List.nodup_append]
    refine ⟨nodup_pairsTo r i, nodup_map _ (fun a b e => by simpa using e) (nodup_listS _), ?_⟩
    rintro ⟨a, b⟩ h1 ⟨c, d⟩ h2 e
    obtain ⟨k, hk, rfl, _⟩ := (mem_pairsTo r a b i).1 h1
    obtain ⟨j, hj, h⟩ := List.mem_map.1 h2
    simp only [Prod.mk.injEq] at h e
    omega
theorem Is.pairs {r : Nat → Nat} (n : Nat) (hn : n = 64) : Is r (pairsTo r n) := by
  refine Is.of_bits (nodup_pairsTo r n) (fun a b h => ?_) fun i j hi hj => ?_
  · obtain ⟨k, hk, rfl, h2⟩ := (mem_pairsTo r a b n).1 h
    obtain ⟨j, rfl, hj, _⟩ := of_mem_listS h2
    unfold inS
    exact ⟨decide_eq_true (by omega), decide_eq_true (by omega)⟩
  · rw [mem_pairsTo]
    constructor
    · rintro ⟨k, hk, e, h⟩
      obtain rfl : i = k := by omega
      exact (mem_listS_nat _ _ hj).1 h
    · intro h
      exact ⟨i, by omega, rfl, (mem_listS_nat _ _ hj).2 h⟩
theorem Is.len {r : Nat → Nat} {l m : List IPair} (h : Is r l) (k : Is r m) : l.length = m.length := by
  have h1 := nodup_len l m h.once (fun ⟨a, b⟩ hx => (k.mem a b).2 ((h.mem a b).1 hx))
  have h2 := nodup_len m l k.once (fun ⟨a, b⟩ hx => (h.mem a b).2 ((k.mem a b).1 hx))
  omega
theorem Is.same {r : Nat → Nat} {l : List IPair} (h : Is r l) : sameR r l = true := by
  unfold sameR
  rw [Bool.and_eq_true, List.all_eq_true, beq_iff_eq]
  refine ⟨fun ⟨a, b⟩ hx => (h.mem a b).1 hx, ?_⟩
  rw [← pairsTo_len, (Is.pairs (r := r) 64 rfl).len h]
theorem Is.none : Is (fun _ => 0) [] := Is.of_bits List.nodup_nil (fun _ _ h => by cases h) fun i j _ _ => by
  constructor
  · intro h; cases h
  · intro h
    have h' : (0 : Nat).testBit j = true := h
    rw [Nat.zero_testBit] at h'; cases h'
theorem Is.add {r : Nat → Nat} {l : List IPair} (h : Is r l) (a b : Int) (hr : rightP a b = true) : Is (addR r a b) (putP l a b) := by
  have hr' := hr
  unfold rightP at hr'
  rw [Bool.and_eq_true] at hr'
  have h1 := of_decide_eq_true hr'.1
  have h2 := of_decide_eq_true hr'.2
  refine Is.of_bits (nodup_putP _ _ _ h.once) (fun x y hm => ?_) fun i j hi hj => ?_
  · rcases (mem_putP _ _ _ _).1 hm with hm | hm
    · exact h.in hm
    · simp only [Prod.mk.injEq] at hm
      rw [hm.1, hm.2]; exact hr'
  · rw [mem_putP, h.bit hi hj, addR_bit _ _ _ _ _ hi hj]
    simp
theorem Is.add_not {r : Nat → Nat} {l : List IPair} (h : Is r l) (a b : Int) (hr : rightP a b = false) : Is (addR r a b) l := by
  have : addR r a b = r := by unfold addR; rw [if_neg]; unfold rightP at hr; rw [hr]; decide
  rw [this]; exact h
theorem Is.within {r t : Nat → Nat} {l m : List IPair} (h : Is r l) (k : Is t m) (okr : RelOK r) : (l.all fun p => hasP m p.1 p.2) = withinR r t := by
  rw [Bool.eq_iff_iff, withinR_iff r t okr, List.all_eq_true]
  constructor
  · intro ha i j hi hj he
    exact (k.bit hi hj).1 ((hasP_iff _ _ _).1 (ha _ ((h.bit hi hj).2 he)))
  · rintro hn ⟨a, b⟩ hm
    obtain ⟨i, j, rfl, rfl, hi, hj, he⟩ := (hasR_iff _ a b).1 ((h.mem a b).1 hm)
    exact (hasP_iff _ _ _).2 ((k.bit hi hj).2 (hn i j hi hj he))
def eqR (r s : Nat → Nat) : Bool := (List.range 64).all fun k => r k == s k
set_option maxRecDepth 100000 in
theorem eql_rel (r s : Nat → Nat) (w : World) : (binOp .eql 40 (.agg (relArr r)) (.agg (relArr s))).run Tryd.prog w = .ok (.bool (eqR r s)) w :=
  run_eql_arr _ 38 64 (by kernel_rfl) _ _ w (fun k => r k == s k) (by kernel_rfl) (by kernel_rfl) (fun i hi => by
    have := run_equalIn_int (P := Tryd.prog) w 9998 (t := 38) (k := .u64) (k' := .u64) (a := (r i : Int)) (b := (s i : Int)) (by kernel_rfl)
    rw [this]
    congr 1
    rw [Bool.eq_iff_iff, beq_iff_eq, beq_iff_eq]; omega)
theorem eqR_iff (r s : Nat → Nat) : eqR r s = true ↔ ∀ i, i < 64 → r i = s i := by
  unfold eqR
  rw [List.all_eq_true]
  exact ⟨fun h i hi => by simpa using h i (List.mem_range.2 hi), fun h i hi => by simpa using h i (List.mem_range.1 hi)⟩
end Go.Proofs.YtlhfpnkfapghoaaDoor
end

section
/- rel.Chain; and what it is, bit by bit. No condition but each theorem's own. -/
set_option linter.unusedVariables false
set_option linter.unusedSimpArgs false
namespace Go.Proofs.YtlhfpnkfapghoaaDoor
open Go.RowKit

theorem IntsK.drop {k : IntKind} {w : World} {A : Option Addr} {c : Nat} {xs : List Int} (h : IntsK k w (.slice A xs.length c) xs) (i : Nat) (hi : i ≤ xs.length) (B : Option Addr)
    (hB : i < xs.length → ∀ ad, A = some ad → B = some (ad.add i)) : IntsK k w (.slice B (xs.length - i) (c - i)) (xs.drop i) := by
  obtain ⟨_, hl, hc⟩ := h.at
  refine ⟨B, c - i, by rw [List.length_drop], by have := h.cap; rw [List.length_drop]; omega, fun h0 => ?_⟩
  rw [List.length_drop] at h0
  obtain ⟨ad, rfl, _⟩ := hc i (by omega)
  refine ⟨_, hB (by omega) ad rfl, fun j hj => ?_⟩
  rw [List.length_drop] at hj
  obtain ⟨ad', he, hx⟩ := hc (i + j) (by omega)
  obtain rfl : ad = ad' := by simpa using he
  have e : (ad.add i).add j = ad.add (i + j) := by
    unfold Addr.add
    by_cases h1 : i = 0
    · subst h1; simp
    · by_cases h2 : j = 0
      · subst h2; simp [h1]
      · rw [if_neg h1, if_neg h2, if_neg (by omega)]; simp [Nat.add_assoc]
  rw [e, hx, List.getD_eq_getElem?_getD, List.getD_eq_getElem?_getD, List.getElem?_drop]
theorem add_lit (b o j : Nat) : (⟨b, o, none⟩ : Addr).add j = ⟨b, o + j, none⟩ := by
  unfold Addr.add
  split <;> simp_all
/-- A stands to each of some. -/
def chainRow (s : Nat → Nat) (a : Int) (l : List Int) (n : Nat) : Nat → Nat := (l.take n).foldl (fun acc b => addR acc a b) s
theorem chainRow_zero (s : Nat → Nat) (a : Int) (l : List Int) : chainRow s a l 0 = s := rfl
theorem chainRow_succ (s : Nat → Nat) (a : Int) (l : List Int) (n : Nat) (h : n < l.length) : chainRow s a l (n + 1) = addR (chainRow s a l n) a (l.getD n 0) := by
  unfold chainRow
  rw [List.take_add_one, List.getElem?_eq_getElem h, List.foldl_append, List.getD_eq_getElem?_getD, List.getElem?_eq_getElem h]
  rfl
theorem chainRow_ok {s : Nat → Nat} (ok : RelOK s) (a : Int) (l : List Int) (n : Nat) : RelOK (chainRow s a l n) := by
  unfold chainRow
  suffices h : ∀ (xs : List Int) (s : Nat → Nat), RelOK s → RelOK (xs.foldl (fun acc b => addR acc a b) s) from h _ _ ok
  intro xs
  induction xs with
  | nil => intro s hs; exact hs
  | cons x xs ih => intro s hs; exact ih _ (addR_ok hs _ _)
def chainTo (l : List Int) : Nat → (Nat → Nat)
  | 0 => fun _ => 0
  | i + 1 => chainRow (chainTo l i) (l.getD i 0) (l.drop (i + 1)) (l.drop (i + 1)).length
theorem chainTo_ok (l : List Int) : ∀ i, RelOK (chainTo l i)
  | 0 => fun _ => by show 0 < _; decide
  | i + 1 => chainRow_ok (chainTo_ok l i) _ _ _
attribute [local go_sem ↓] zero_rel
set_option maxHeartbeats 2000000 in
set_option maxRecDepth 100000 in
theorem chain_rel (v : Value) (l : List Int) (w : World) (hl : Ints w v l) (hn : l.length ≤ 1000000) : Calls Tryd.prog 35 #[v] w fun e w' => e = .returned (.agg (relArr (chainTo l l.length))) ∧ Ch nob w w' := by
  obtain ⟨A, c, rfl⟩ := hl.shape
  obtain ⟨hz1, ho1, hc1, hs1⟩ := two_new w (relArr fun _ => 0) (relArr fun _ => 0) 40 40
  have HL := Lib.hid hl
  clear hl
  go_enter Tryd.func35, Tryd.ntmps35
  go_wp2_with fail
  generalize (w.alloc _).alloc _ = w1 at hz1 ho1 hc1 ⊢
  go_loopw [10] (fun q wr => ∃ i : Nat, q = .int .i64 i ∧ i ≤ l.length ∧ Blk wr w.heap.size (relArr fun _ => 0) 40 ∧ Blk wr (w.heap.size + 1) (relArr (chainTo l i)) 40 ∧ Ch nob w wr) (fun q _ => l.length - (intOf q).toNat)
  case atStart => exact ⟨0, rfl, by omega, hz1, ho1, hc1⟩
  case round =>
    clear hz1 ho1 hc1 hs1
    obtain ⟨i, rfl, hi, hz, ho, hc⟩ := hrel
    by_cases hlt : i < l.length
    · have hd : decide ((i : Int) < (l.length : Int)) = true := decide_eq_true (by omega)
      obtain ⟨_, _, hcells⟩ := (HL.out.keep hc).at
      obtain ⟨ad, rfl, hx⟩ := hcells i hlt
      have HD := Lib.hid (fun (B : Option Addr) h => HL.out.drop (i + 1) (by omega) B h)
      have okt := chainTo_ok l i
      have HN := Lib.hid (show chainTo l (i + 1) = chainRow (chainTo l i) (l.getD i 0) (l.drop (i + 1)) (l.drop (i + 1)).length from rfl)
      obtain ⟨a, ha⟩ : ∃ a, l.getD i 0 = a := ⟨_, rfl⟩
      rw [ha] at hx HN
      obtain ⟨s, hse⟩ : ∃ s, chainTo l i = s := ⟨_, rfl⟩
      rw [hse] at ho okt HN
      have hcap := HL.out.cap
      have hib : (i : Int) + 1 ≤ (l.length : Int) := by omega
      have hlen2 : (l.drop (i + 1)).length = l.length - (i + 1) := List.length_drop
      obtain ⟨m, hm⟩ : ∃ m, l.drop (i + 1) = m := ⟨_, rfl⟩
      rw [hm] at HD HN hlen2
      have HLE := Lib.hid hlen2
      clear hse ha hcells hm hlen2
      have hHI : (c = i + 1 ∧ Ints w (.slice (some ad) (l.length - (i + 1)) 0) m) ∨ (c ≠ i + 1 ∧ Ints w (.slice (some ⟨ad.block, ad.off + (i + 1), none⟩) (l.length - (i + 1)) (c - (i + 1))) m) := by
        by_cases hcc : c = i + 1
        · left
          refine ⟨hcc, ?_⟩
          have := HD.out (some ad) (fun h => by omega)
          rwa [show c - (i + 1) = 0 from by omega] at this
        · right
          exact ⟨hcc, HD.out _ (fun _ ad' h => by obtain rfl : ad = ad' := by simpa using h
                                                  unfold Addr.add; rw [if_neg (by omega)])⟩
      clear HD
      rcases hHI with ⟨rfl, hI⟩ | ⟨hcc, hI⟩
      · obtain rfl : m = [] := List.eq_nil_of_length_eq_zero (by have := HLE.out; omega)
        have HN2 := Lib.hid (show chainTo l (i + 1) = s from by rw [HN.out]; rfl)
        clear hI HN
        go_wp2_with fail
        go_loopw [20] (fun q wr => q = .int .i64 0 ∧ Blk wr w.heap.size (relArr fun _ => 0) 40 ∧ Blk wr (w.heap.size + 1) (relArr s) 40 ∧ Ch nob w wr) (fun q _ => 0)
        case atStart => exact ⟨rfl, hz, ho, hc⟩
        case round =>
          clear hz ho hc
          obtain ⟨rfl, hz, ho, hc⟩ := hrel
          rw [← HN2.out] at ho
          clear HN2
          go_wp2_with fail
          go_roundw
          case rel => exact ⟨i + 1, by go_num, by omega, hz, ho, hc⟩
          case measure => simp [intOf]; omega
      · have HI := Lib.hid (fun (w' : World) (h : Ch nob w w') => hI.keep h)
        clear hI
        go_wp2_with fail
        rw [← HLE.out]
        go_loopw [20] (fun q wr => ∃ j : Nat, q = .int .i64 j ∧ j ≤ m.length ∧ Blk wr w.heap.size (relArr fun _ => 0) 40 ∧ Blk wr (w.heap.size + 1) (relArr (chainRow s a m j)) 40 ∧ Ch nob w wr) (fun q _ => m.length - (intOf q).toNat)
        case atStart => exact ⟨0, rfl, by omega, hz, ho, hc⟩
        case round =>
          clear hz ho hc
          obtain ⟨j, rfl, hj, hz, ho, hc⟩ := hrel
          by_cases hltj : j < m.length
          · have hd2 : decide ((j : Int) < (m.length : Int)) = true := decide_eq_true (by omega)
            have hml := HLE.out
            have hii := HI.out _ hc
            rw [← HLE.out] at hii
            obtain ⟨_, _, hcells⟩ := hii.at
            obtain ⟨bd, hbd, hx⟩ := hcells j hltj
            simp only [Option.some.injEq] at hbd
            subst hbd
            rw [add_lit] at hx
            clear hcells hml hii
            have HS := Lib.hid (chainRow_succ s a m j hltj)
            obtain ⟨z, hz0⟩ : ∃ z, m.getD j 0 = z := ⟨_, rfl⟩
            rw [hz0] at hx HS
            clear hz0
            go_wp2_with fail
            refine (add_rel _ (chainRow_ok okt a m j) (w.heap.size + 1) a z _ ho).mono ?_
            rintro e w3 ⟨rfl, ho3, hch⟩
            rw [← HS.out] at ho3
            have hz3 := hz.ch hch (by omega)
            have hc3 := hc.fresh hch (by omega)
            clear hz ho hc hch hx
            go_wp2_with fail
            go_roundw
            case rel => exact ⟨j + 1, by go_num, by omega, hz3, ho3, hc3⟩
            case measure => simp [intOf]; omega
          · obtain rfl : j = m.length := by omega
            have hd2 : decide ((m.length : Int) < (m.length : Int)) = false := by simp
            rw [← HN.out] at ho
            clear HN
            go_wp2_with fail
            go_roundw
            case rel => exact ⟨i + 1, by go_num, by omega, hz, ho, hc⟩
            case measure => simp [intOf]; omega
    · obtain rfl : i = l.length := by omega
      have hd : decide ((l.length : Int) < (l.length : Int)) = false := by simp
      have hsz : (relArr (chainTo l l.length)).size = 64 := relArr_size _
      have hce := relArr_cells (chainTo l l.length)
      obtain ⟨C, hC⟩ : ∃ C, relArr (chainTo l l.length) = C := ⟨_, rfl⟩
      have HC := Lib.hid hC
      rw [hC] at hsz hce ho
      obtain ⟨Z, hZ⟩ : ∃ Z, (relArr fun _ => 0) = Z := ⟨_, rfl⟩
      have hzz : Z.size = 64 := by rw [← hZ]; exact relArr_size _
      rw [hZ] at hz
      clear hC hZ
      go_wp2_with (first | (refine wpList_load_row rfl 40 (.tmp 3) rfl (w.heap.size + 1) rfl 40 C (0, 0) _ ho rfl rfl (by rw [hsz]; kernel_rfl) ?_) | (refine wpList_store_row rfl 40 (.tmp 2) (.tmp 29) rfl w.heap.size C rfl rfl 40 _ hz (by rw [hsz]; kernel_rfl) (by rw [hzz, hsz]) hce ?_))
      have hz3 := hz.row C
      have hc3 := hc.setRow w.heap.size C (fun h => by omega)
      exact bodyPost_ret (v := .agg C) (results_cell_row rfl _ _ w.heap.size 40 C (0, 0) _ rfl hz3 rfl rfl (by rw [hsz]; kernel_rfl)) rfl ⟨by rw [HC.out], hc3⟩
theorem chainRow_bit (s : Nat → Nat) (a : Int) (i j : Nat) (hi : i < 64) (hj : j < 64) (ys : List Int) : E (chainRow s a ys ys.length) i j ↔ E s i j ∨ ((i : Int) = a ∧ (j : Int) ∈ ys) := by
  unfold chainRow
  rw [List.take_length]
  induction ys generalizing s with
  | nil => simp
  | cons y ys ih =>
    rw [List.foldl_cons, ih, addR_bit _ _ _ _ _ hi hj, List.mem_cons]
    constructor
    · rintro ((h | ⟨h1, h2⟩) | ⟨h1, h2⟩)
      · exact .inl h
      · exact .inr ⟨h1, .inl h2⟩
      · exact .inr ⟨h1, .inr h2⟩
    · rintro (h | ⟨h1, h2 | h2⟩)
      · exact .inl (.inl h)
      · exact .inl (.inr ⟨h1, h2⟩)
      · exact .inr ⟨h1, h2⟩
theorem mem_drop_iff (row : List Int) (n : Nat) (y : Int) : y ∈ row.drop n ↔ ∃ j, n ≤ j ∧ j < row.length ∧ row.getD j 0 = y := by
  constructor
  · intro h
    obtain ⟨j, hj, he⟩ := List.getElem_of_mem h
    rw [List.length_drop] at hj
    refine ⟨n + j, by omega, by omega, ?_⟩
    rw [List.getD_eq_getElem?_getD, List.getElem?_eq_getElem (by omega)]
    rw [List.getElem_drop] at he
    exact he
  · rintro ⟨j, h1, h2, rfl⟩
    rw [List.getD_eq_getElem?_getD, List.getElem?_eq_getElem h2]
    refine List.mem_of_getElem (i := j - n) (h := by rw [List.length_drop]; omega) ?_
    rw [List.getElem_drop]
    simp [show n + (j - n) = j from by omega]
theorem chainTo_bit (row : List Int) (x y : Nat) (hx : x < 64) (hy : y < 64) : ∀ k, k ≤ row.length → (E (chainTo row k) x y ↔ ∃ i j, i < k ∧ i < j ∧ j < row.length ∧ row.getD i 0 = (x : Int) ∧ row.getD j 0 = (y : Int))
  | 0, _ => by
    constructor
    · intro h
      have h' : (0 : Nat).testBit y = true := h
      rw [Nat.zero_testBit] at h'; cases h'
    · rintro ⟨i, j, h, _⟩; omega
  | k + 1, hk => by
    show E (chainRow (chainTo row k) (row.getD k 0) (row.drop (k + 1)) (row.drop (k + 1)).length) x y ↔ _
    rw [chainRow_bit _ _ _ _ hx hy, chainTo_bit row x y hx hy k (by omega), mem_drop_iff]
    constructor
    · rintro (⟨i, j, h1, h2, h3, h4, h5⟩ | ⟨h1, j, h2, h3, h4⟩)
      · exact ⟨i, j, by omega, h2, h3, h4, h5⟩
      · exact ⟨k, j, by omega, by omega, h3, h1.symm, h4⟩
    · rintro ⟨i, j, h1, h2, h3, h4, h5⟩
      by_cases e : i = k
      · subst e
        exact .inr ⟨h4.symm, j, by omega, h3, h5⟩
      · exact .inl ⟨i, j, by omega, h2, h3, h4, h5⟩
theorem chain_bit (row : List Int) (x y : Nat) (hx : x < 64) (hy : y < 64) : E (chainTo row row.length) x y ↔ ∃ i j, i < j ∧ j < row.length ∧ row.getD i 0 = (x : Int) ∧ row.getD j 0 = (y : Int) := by
  rw [chainTo_bit row x y hx hy _ (Nat.le_refl _)]
  constructor
  · rintro ⟨i, j, _, h⟩; exact ⟨i, j, h⟩
  · rintro ⟨i, j, h1, h2, h⟩; exact ⟨i, j, by omega, h1, h2, h⟩
end Go.Proofs.YtlhfpnkfapghoaaDoor
end

section
/- Plain law: the least relation that holds what must be seen, and what follows of that. No condition but each theorem's own. -/
set_option linter.unusedVariables false
set_option linter.unusedSimpArgs false
namespace Go.Proofs.YtlhfpnkfapghoaaDoor
open Go.RowKit

/-- Is a thing asked? -/
def askB (x : Int) (m : Nat) : Bool := bits .and .i64 x m != 0
theorem unionR_ok {r t : Nat → Nat} (okr : RelOK r) (okt : RelOK t) (n : Nat) : RelOK (unionR r t n) := fun i => by
  unfold unionR
  split
  · exact or_ok (okr i) (okt i)
  · exact okr i
/-- One step of what follows. -/
def growA (x : Int) (v : Nat → Nat) : Nat → Nat := if askB x 2 = true then unionR v (thenR v v) 64 else v
def growR (x : Int) (co v : Nat → Nat) : Nat → Nat := if askB x 4 = true then unionR (growA x v) (thenR co (growA x v)) 64 else growA x v
theorem growA_ok (x : Int) {v : Nat → Nat} (h : RelOK v) : RelOK (growA x v) := by
  unfold growA; split
  · exact unionR_ok h (thenR_ok _ h) _
  · exact h
theorem growR_ok (x : Int) (co : Nat → Nat) {v : Nat → Nat} (h : RelOK v) : RelOK (growR x co v) := by
  unfold growR; split
  · exact unionR_ok (growA_ok x h) (thenR_ok _ (growA_ok x h)) _
  · exact growA_ok x h
theorem growA_bit (x : Int) (v : Nat → Nat) (i j : Nat) (hi : i < 64) : E (growA x v) i j ↔ E v i j ∨ (askB x 2 = true ∧ ∃ m, m < 64 ∧ E v i m ∧ E v m j) := by
  unfold growA
  cases askB x 2 with
  | false => simp
  | true => rw [if_pos rfl, unionR_bit _ _ _ _ hi, thenR_bit]; simp
theorem growR_bit (x : Int) (co v : Nat → Nat) (i j : Nat) (hi : i < 64) : E (growR x co v) i j ↔ E (growA x v) i j ∨ (askB x 4 = true ∧ ∃ m, m < 64 ∧ E co i m ∧ E (growA x v) m j) := by
  unfold growR
  cases askB x 4 with
  | false => simp
  | true => rw [if_pos rfl, unionR_bit _ _ _ _ hi, thenR_bit]; simp
theorem bit_lt {R : Nat → Nat} (h : RelOK R) {i j : Nat} (he : E R i j) : j < 64 := by
  by_cases hj : j < 64
  · exact hj
  · have := Bits.high (R i) j (h i) (by omega)
    rw [show E R i j ↔ (R i).testBit j = true from Iff.rfl, this] at he
    cases he
/-- What is closed. -/
structure Clo (x : Int) (co : Nat → Nat) (T : Nat → Nat → Prop) : Prop where
  tr : askB x 2 = true → ∀ i j k, i < 64 → j < 64 → k < 64 → T i j → T j k → T i k
  pre : askB x 4 = true → ∀ i j k, i < 64 → j < 64 → k < 64 → E co i j → T j k → T i k
/-- On the way to the least. -/
structure Lst (x : Int) (co v R : Nat → Nat) : Prop where
  ok : RelOK R
  sub : ∀ i j, i < 64 → j < 64 → E v i j → E R i j
  least : ∀ T : Nat → Nat → Prop, (∀ i j, i < 64 → j < 64 → E v i j → T i j) → Clo x co T → ∀ i j, i < 64 → j < 64 → E R i j → T i j
theorem Lst.start (x : Int) (co : Nat → Nat) {v : Nat → Nat} (h : RelOK v) : Lst x co v v := ⟨h, fun _ _ _ _ h => h, fun T h _ => h⟩
theorem growA_sub (x : Int) (v : Nat → Nat) (i j : Nat) (hi : i < 64) (h : E v i j) : E (growA x v) i j := (growA_bit x v i j hi).2 (.inl h)
theorem grow_sub (x : Int) (co v : Nat → Nat) (i j : Nat) (hi : i < 64) (h : E v i j) : E (growR x co v) i j := (growR_bit x co v i j hi).2 (.inl (growA_sub x v i j hi h))
theorem Lst.step {x : Int} {co v R : Nat → Nat} (h : Lst x co v R) : Lst x co v (growR x co R) := by
  have hA : ∀ T : Nat → Nat → Prop, (∀ i j, i < 64 → j < 64 → E v i j → T i j) → Clo x co T → ∀ i j, i < 64 → j < 64 → E (growA x R) i j → T i j := fun T h1 h2 i j hi hj he => by
    rcases (growA_bit x R i j hi).1 he with he | ⟨h4, m, hm, e1, e2⟩
    · exact h.least T h1 h2 i j hi hj he
    · exact h2.tr h4 i m j hi hm hj (h.least T h1 h2 i m hi hm e1) (h.least T h1 h2 m j hm hj e2)
  refine ⟨growR_ok x co h.ok, fun i j hi hj he => grow_sub x co R i j hi (h.sub i j hi hj he), fun T h1 h2 i j hi hj he => ?_⟩
  rcases (growR_bit x co R i j hi).1 he with he | ⟨h4, m, hm, e1, e2⟩
  · exact hA T h1 h2 i j hi hj he
  · exact h2.pre h4 i m j hi hm hj e1 (hA T h1 h2 m j hm hj e2)
theorem Lst.done {x : Int} {co v R : Nat → Nat} (h : Lst x co v R) (he : eqR (growR x co R) R = true) : Clo x co (E R) := by
  have hb : ∀ i j, i < 64 → E (growR x co R) i j → E R i j := fun i j hi h1 => by
    have := (eqR_iff _ _).1 he i hi
    show (R i).testBit j = true
    rw [← this]; exact h1
  refine ⟨fun h2 i j k hi hj hk e1 e2 => hb i k hi ?_, fun h4 i j k hi hj hk e1 e2 => hb i k hi ?_⟩
  · exact (growR_bit x co R i k hi).2 (.inl ((growA_bit x R i k hi).2 (.inr ⟨h2, j, hj, e1, e2⟩)))
  · exact (growR_bit x co R i k hi).2 (.inr ⟨h4, j, hj, e1, growA_sub x R j k hj e2⟩)
theorem sum_grow {x : Int} {co R : Nat → Nat} (ok : RelOK R) (h : eqR (growR x co R) R = false) : sumTo R 64 < sumTo (growR x co R) 64 := by
  have ok2 := growR_ok x co ok
  have hne : ∃ i, i < 64 ∧ growR x co R i ≠ R i := by
    apply Classical.byContradiction
    intro hn
    have : eqR (growR x co R) R = true := (eqR_iff _ _).2 fun i hi => Classical.byContradiction fun e => hn ⟨i, hi, e⟩
    rw [h] at this; cases this
  obtain ⟨i, hi, hne⟩ := hne
  have hbit : ∃ j, j < 64 ∧ E (growR x co R) i j ∧ ¬ E R i j := by
    apply Classical.byContradiction
    intro hn
    apply hne
    refine Bits.ext64 (ok2 i) (ok i) fun j hj => ?_
    by_cases e : E R i j
    · rw [show (R i).testBit j = true from e]; exact grow_sub x co R i j hi e
    · have e2 : ¬ E (growR x co R) i j := fun e3 => hn ⟨j, hj, e3, e⟩
      rw [Bool.eq_false_iff.2 e, Bool.eq_false_iff.2 e2]
  obtain ⟨j, hj, e1, e2⟩ := hbit
  have p1 := Is.pairs (r := R) 64 rfl
  have p2 := Is.pairs (r := growR x co R) 64 rfl
  rw [← pairsTo_len, ← pairsTo_len]
  have hsub : ∀ q ∈ (((i : Int), (j : Int)) :: pairsTo R 64), q ∈ pairsTo (growR x co R) 64 := by
    intro q hq
    rcases List.mem_cons.1 hq with rfl | hq
    · exact (p2.bit hi hj).2 e1
    · obtain ⟨a, b⟩ := q
      have hin := p1.in hq
      unfold inS at hin
      simp only [decide_eq_true_eq] at hin
      obtain ⟨a', rfl⟩ := Int.eq_ofNat_of_zero_le hin.1.1
      obtain ⟨b', rfl⟩ := Int.eq_ofNat_of_zero_le hin.2.1
      have ha : a' < 64 := by omega
      have hb : b' < 64 := by omega
      exact (p2.bit ha hb).2 (grow_sub x co R a' b' ha ((p1.bit ha hb).1 hq))
  have hnd : (((i : Int), (j : Int)) :: pairsTo R 64).Nodup := List.nodup_cons.2 ⟨fun hm => e2 ((p1.bit hi hj).1 hm), nodup_pairsTo R 64⟩
  have := nodup_le _ _ hnd hsub
  rw [List.length_cons] at this
  omega
end Go.Proofs.YtlhfpnkfapghoaaDoor
end

section
/- Plain law: the least relation as the document finds it, pair by pair; and that both are the same. No condition but each theorem's own. -/
set_option linter.unusedVariables false
set_option linter.unusedSimpArgs false
namespace Go.Proofs.YtlhfpnkfapghoaaDoor
open Go.RowKit

/-- Is one seen by another one, since that sees somebody else? -/
def folB (p2 p4 : Bool) (ah : Nat → Nat → Bool) (n : Nat) (l : List IPair) (i k : Nat) : Bool := (List.range n).any fun j => hasP l (j : Int) (k : Int) && (p2 && hasP l (i : Int) (j : Int) || p4 && ah i j)
/-- Closed, of n numbers. -/
structure CloN (p2 p4 : Bool) (ah : Nat → Nat → Bool) (n : Nat) (T : Nat → Nat → Prop) : Prop where
  tr : p2 = true → ∀ i j k, i < n → j < n → k < n → T i j → T j k → T i k
  pre : p4 = true → ∀ i j k, i < n → j < n → k < n → ah i j = true → T j k → T i k
/-- On the way. -/
structure DocI (p2 p4 : Bool) (ah mu : Nat → Nat → Bool) (n : Nat) (l : List IPair) : Prop where
  nd : l.Nodup
  rng : ∀ a b, (a, b) ∈ l → ∃ i k : Nat, a = i ∧ b = k ∧ i < n ∧ k < n
  least : ∀ T : Nat → Nat → Prop, (∀ i k, i < n → k < n → i ≠ k → mu i k = true → T i k) → CloN p2 p4 ah n T → ∀ i k : Nat, ((i : Int), (k : Int)) ∈ l → T i k
section
variable {p2 p4 : Bool} {ah mu : Nat → Nat → Bool} {n : Nat} {l : List IPair}
theorem DocI.nil : DocI p2 p4 ah mu n [] := ⟨List.nodup_nil, fun _ _ h => (by cases h), fun _ _ _ _ _ h => (by cases h)⟩
theorem DocI.put (h : DocI p2 p4 ah mu n l) {i k : Nat} (hi : i < n) (hk : k < n) (hm : (i ≠ k ∧ mu i k = true) ∨ folB p2 p4 ah n l i k = true) : DocI p2 p4 ah mu n (putP l (i : Int) (k : Int)) := by
  refine ⟨nodup_putP _ _ _ h.nd, fun a b hab => ?_, fun T h1 h2 a b hab => ?_⟩
  · rcases (mem_putP _ _ _ _).1 hab with hab | hab
    · exact h.rng a b hab
    · cases hab; exact ⟨i, k, rfl, rfl, hi, hk⟩
  · rcases (mem_putP _ _ _ _).1 hab with hab | hab
    · exact h.least T h1 h2 a b hab
    · simp only [Prod.mk.injEq] at hab
      obtain ⟨e1, e2⟩ := hab
      have e1 : a = i := by omega
      have e2 : b = k := by omega
      subst e1 e2
      rcases hm with ⟨hne, hmu⟩ | hf
      · exact h1 a b hi hk hne hmu
      · unfold folB at hf
        rw [List.any_eq_true] at hf
        obtain ⟨j, hj, hb⟩ := hf
        rw [List.mem_range] at hj
        rw [Bool.and_eq_true, Bool.or_eq_true, Bool.and_eq_true, Bool.and_eq_true] at hb
        have hjk := h.least T h1 h2 j b ((hasP_iff _ _ _).1 hb.1)
        rcases hb.2 with ⟨q1, q2⟩ | ⟨q1, q2⟩
        · exact h2.tr q1 a j b hi hj hk (h.least T h1 h2 a j ((hasP_iff _ _ _).1 q2)) hjk
        · exact h2.pre q1 a j b hi hj hk q2 hjk
theorem mem_sq (n a b : Nat) (ha : a < n) (hb : b < n) : ((a : Int), (b : Int)) ∈ (List.range n).flatMap fun i : Nat => (List.range n).map fun k : Nat => ((i : Int), (k : Int)) := by
  rw [List.mem_flatMap]
  exact ⟨a, List.mem_range.2 ha, List.mem_map.2 ⟨b, List.mem_range.2 hb, rfl⟩⟩
theorem sq_len (m : Nat) : ∀ n : Nat, ((List.range n).flatMap fun i : Nat => (List.range m).map fun k : Nat => ((i : Int), (k : Int))).length = n * m
  | 0 => by simp
  | n + 1 => by
    rw [List.range_succ, List.flatMap_append, List.length_append, sq_len m n, Nat.succ_mul]
    simp
theorem DocI.len (h : DocI p2 p4 ah mu n l) : l.length ≤ n * n := by
  rw [← sq_len n n]
  refine nodup_le _ _ h.nd fun q hq => ?_
  obtain ⟨a, b⟩ := q
  obtain ⟨i, k, rfl, rfl, hi, hk⟩ := h.rng a b hq
  exact mem_sq n i k hi hk
theorem putP_new {l : List IPair} {a b : Int} (h : hasP l a b = false) : (putP l a b).length = l.length + 1 := by
  unfold putP; rw [h]; simp
/-- The document's answer. -/
structure DocOf (p2 p4 : Bool) (ah mu : Nat → Nat → Bool) (n : Nat) (l : List IPair) : Prop where
  inv : DocI p2 p4 ah mu n l
  must : ∀ i k, i < n → k < n → i ≠ k → mu i k = true → ((i : Int), (k : Int)) ∈ l
  fin : ∀ i k, i < n → k < n → hasP l (i : Int) (k : Int) = false → folB p2 p4 ah n l i k = false
theorem DocOf.clo (h : DocOf p2 p4 ah mu n l) : CloN p2 p4 ah n fun i k => ((i : Int), (k : Int)) ∈ l := by
  have key : ∀ i j k : Nat, i < n → j < n → k < n → (p2 = true ∧ ((i : Int), (j : Int)) ∈ l ∨ p4 = true ∧ ah i j = true) → ((j : Int), (k : Int)) ∈ l → ((i : Int), (k : Int)) ∈ l := by
    intro i j k hi hj hk h1 h2
    apply Classical.byContradiction
    intro hn
    have hh : hasP l (i : Int) (k : Int) = false := Bool.eq_false_iff.2 fun e => hn ((hasP_iff _ _ _).1 e)
    have hf := h.fin i k hi hk hh
    unfold folB at hf
    rw [List.any_eq_false] at hf
    refine hf j (List.mem_range.2 hj) ?_
    rw [Bool.and_eq_true, Bool.or_eq_true, Bool.and_eq_true, Bool.and_eq_true, hasP_iff, hasP_iff]
    exact ⟨h2, h1⟩
  exact ⟨fun hp i j k hi hj hk h1 h2 => key i j k hi hj hk (.inl ⟨hp, h1⟩) h2, fun hp i j k hi hj hk h1 h2 => key i j k hi hj hk (.inr ⟨hp, h1⟩) h2⟩
/-- Both are the same. -/
theorem DocOf.is (h : DocOf p2 p4 ah mu n l) (hn : n ≤ 64) {x : Int} {co v R : Nat → Nat} (hl : Lst x co v R) (hc : Clo x co (E R))
    (hv : ∀ i j, i < 64 → j < 64 → (E v i j ↔ i < n ∧ j < n ∧ i ≠ j ∧ mu i j = true)) (hco : ∀ i j, i < 64 → j < 64 → (E co i j ↔ i < n ∧ j < n ∧ ah i j = true)) (e2 : askB x 2 = p2) (e4 : askB x 4 = p4) : Is R l := by
  refine Is.of_bits h.inv.nd (fun a b hab => ?_) fun i j hi hj => ⟨fun hm => ?_, fun he => ?_⟩
  · obtain ⟨i, k, rfl, rfl, hi, hk⟩ := h.inv.rng a b hab
    unfold inS
    simp only [decide_eq_true_eq]
    omega
  · refine h.inv.least (fun i k => i < 64 ∧ k < 64 ∧ E R i k) (fun a b ha hb hne hm => ⟨by omega, by omega, hl.sub a b (by omega) (by omega) ((hv a b (by omega) (by omega)).2 ⟨ha, hb, hne, hm⟩)⟩) ⟨fun hp a b c ha hb hc2 q1 q2 => ⟨q1.1, q2.2.1, hc.tr (e2.trans hp) a b c q1.1 q1.2.1 q2.2.1 q1.2.2 q2.2.2⟩, fun hp a b c ha hb hc2 q1 q2 => ⟨by omega, q2.2.1, hc.pre (e4.trans hp) a b c (by omega) q2.1 q2.2.1 ((hco a b (by omega) q2.1).2 ⟨ha, hb, q1⟩) q2.2.2⟩⟩ i j hm |>.2.2
  · have hcl := h.clo
    refine hl.least (fun i k => ((i : Int), (k : Int)) ∈ l) (fun a b ha hb hv2 => ?_) ⟨fun hp a b c ha hb hc2 q1 q2 => ?_, fun hp a b c ha hb hc2 q1 q2 => ?_⟩ i j hi hj he
    · obtain ⟨h1, h2, h3, h4⟩ := (hv a b ha hb).1 hv2
      exact h.must a b h1 h2 h3 h4
    · obtain ⟨i1, k1, z1, z2, z3, z4⟩ := h.inv.rng _ _ q1
      obtain ⟨i2, k2, y1, y2, y3, y4⟩ := h.inv.rng _ _ q2
      exact hcl.tr (e2.symm.trans hp) a b c (by omega) (by omega) (by omega) q1 q2
    · obtain ⟨h1, h2, h3⟩ := (hco a b ha hb).1 q1
      obtain ⟨i2, k2, y1, y2, y3, y4⟩ := h.inv.rng _ _ q2
      exact hcl.pre (e4.symm.trans hp) a b c h1 h2 (by omega) h3 q2
end
end Go.Proofs.YtlhfpnkfapghoaaDoor
end

section
/- Plain law: a row of all numbers, where one comes in it, and what must be seen. No condition but each theorem's own. -/
set_option linter.unusedVariables false
set_option linter.unusedSimpArgs false
namespace Go.Proofs.YtlhfpnkfapghoaaDoor
open Go.RowKit

/-- Where one comes, counted from k on; -1: nowhere. -/
def plcA : List Int → Int → Int → Int
  | [], _, _ => -1
  | x :: l, i, k => if x = i then k else plcA l i (k + 1)
def plc (row : List Int) (i : Int) : Int := plcA row i 0
theorem plcA_at : ∀ (l : List Int) (i k : Int) (j : Nat), j < l.length → l.getD j 0 = i → (∀ m, m < j → l.getD m 0 ≠ i) → plcA l i k = k + j
  | [], _, _, _, h, _, _ => by cases h
  | x :: l, i, k, 0, _, h, _ => by
    have : x = i := h
    unfold plcA; rw [if_pos this]; simp
  | x :: l, i, k, j + 1, hj, h, hn => by
    have h0 : x ≠ i := hn 0 (by omega)
    unfold plcA
    rw [if_neg h0, plcA_at l i (k + 1) j (by simpa using hj) (by simpa using h) (fun m hm => by simpa using hn (m + 1) (by omega))]
    push_cast
    omega
theorem plcA_no : ∀ (l : List Int) (i k : Int), (∀ m, m < l.length → l.getD m 0 ≠ i) → plcA l i k = -1
  | [], _, _, _ => rfl
  | x :: l, i, k, h => by
    have h0 : x ≠ i := h 0 (by simp)
    unfold plcA
    rw [if_neg h0]
    exact plcA_no l i (k + 1) fun m hm => by simpa using h (m + 1) (by simpa using hm)
theorem plc_at {row : List Int} {i : Int} {j : Nat} (hj : j < row.length) (h : row.getD j 0 = i) (hn : ∀ m, m < j → row.getD m 0 ≠ i) : plc row i = (j : Int) := by
  unfold plc; rw [plcA_at row i 0 j hj h hn]; omega
theorem plc_no {row : List Int} {i : Int} (h : ∀ m, m < row.length → row.getD m 0 ≠ i) : plc row i = -1 := plcA_no row i 0 h
/-- Does one come ahead of another one? -/
def ahB (row : List Int) (i k : Nat) : Bool := decide (plc row (i : Int) < plc row (k : Int))
/-- A row of all numbers below n, each once. -/
structure RowOK (row : List Int) (n : Nat) : Prop where
  len : row.length = n
  rng : ∀ x ∈ row, 0 ≤ x ∧ x < n
  nd : row.Nodup
theorem mem_getI {row : List Int} {j : Nat} (hj : j < row.length) : row.getD j 0 ∈ row := by
  rw [List.getD_eq_getElem?_getD, List.getElem?_eq_getElem hj]
  exact List.getElem_mem hj
theorem nd_eq {row : List Int} (h : row.Nodup) {i j : Nat} (hi : i < row.length) (hj : j < row.length) (e : row.getD i 0 = row.getD j 0) : i = j := by
  rw [List.getD_eq_getElem?_getD, List.getD_eq_getElem?_getD, List.getElem?_eq_getElem hi, List.getElem?_eq_getElem hj] at e
  have e : row[i] = row[j] := e
  have h2 := List.pairwise_iff_getElem.1 h
  rcases Nat.lt_trichotomy i j with h3 | h3 | h3
  · exact absurd e (h2 i j hi hj h3)
  · exact h3
  · exact absurd e.symm (h2 j i hj hi h3)
section
variable {row : List Int} {n : Nat}
theorem RowOK.has (h : RowOK row n) {x : Nat} (hx : x < n) : ∃ j, j < n ∧ row.getD j 0 = (x : Int) := by
  have hm : (x : Int) ∈ row := by
    apply Classical.byContradiction
    intro hn
    have h1 := nodup_len ((x : Int) :: row) ((List.range n).map fun i : Nat => (i : Int)) (List.nodup_cons.2 ⟨hn, h.nd⟩) (fun y hy => by
      rcases List.mem_cons.1 hy with rfl | hy
      · exact List.mem_map.2 ⟨x, List.mem_range.2 hx, rfl⟩
      · have := h.rng y hy
        exact List.mem_map.2 ⟨y.toNat, List.mem_range.2 (by omega), by omega⟩)
    rw [List.length_cons, List.length_map, List.length_range, h.len] at h1
    omega
  obtain ⟨j, hj, he⟩ := List.getElem_of_mem hm
  refine ⟨j, by rw [← h.len]; exact hj, ?_⟩
  rw [List.getD_eq_getElem?_getD, List.getElem?_eq_getElem hj]
  exact he
theorem RowOK.place (h : RowOK row n) {j : Nat} (hj : j < n) {x : Int} (e : row.getD j 0 = x) : plc row x = (j : Int) :=
  plc_at (by rw [h.len]; exact hj) e fun m hm e2 => by
    have := nd_eq h.nd (i := m) (j := j) (by rw [h.len]; omega) (by rw [h.len]; omega) (e2.trans e.symm)
    omega
theorem RowOK.at (h : RowOK row n) {j : Nat} (hj : j < n) : ∃ x : Nat, row.getD j 0 = (x : Int) ∧ x < n := by
  have := h.rng _ (mem_getI (row := row) (j := j) (by rw [h.len]; exact hj))
  exact ⟨(row.getD j 0).toNat, by omega, by omega⟩
/-- As a relation. -/
theorem RowOK.chain (h : RowOK row n) (hn : n ≤ 64) (x y : Nat) (hx : x < 64) (hy : y < 64) : E (chainTo row row.length) x y ↔ x < n ∧ y < n ∧ ahB row x y = true := by
  rw [chain_bit row x y hx hy]
  unfold ahB
  rw [decide_eq_true_iff]
  constructor
  · rintro ⟨i, j, h1, h2, h3, h4⟩
    rw [h.len] at h2
    have r1 := h.rng _ (mem_getI (row := row) (j := i) (by rw [h.len]; omega))
    have r2 := h.rng _ (mem_getI (row := row) (j := j) (by rw [h.len]; omega))
    rw [h3] at r1
    rw [h4] at r2
    refine ⟨by omega, by omega, ?_⟩
    rw [h.place (j := i) (by omega) h3, h.place (j := j) h2 h4]
    omega
  · rintro ⟨h1, h2, h3⟩
    obtain ⟨i, hi, e1⟩ := h.has h1
    obtain ⟨j, hj, e2⟩ := h.has h2
    rw [h.place hi e1, h.place hj e2] at h3
    exact ⟨i, j, by omega, by rw [h.len]; exact hj, e1, e2⟩
theorem ah_irr (row : List Int) (i : Nat) : ahB row i i = false := by unfold ahB; rw [decide_eq_false_iff_not]; omega
end
/-- Must one be seen by another one, whatever else is? -/
def musB (fb sb tb rb : Nat → Nat → Bool) (a : Int) (row : List Int) (i k : Nat) : Bool :=
  if fb i k || (hasI a 1 && sb i k) || (hasI a 32 && tb i k) then true else if ahB row i k then hasI a 16 || (hasI a 8 && rb i k) else false
theorem musB_iff (fb sb tb rb : Nat → Nat → Bool) (a : Int) (row : List Int) (i k : Nat) : musB fb sb tb rb a row i k = true ↔ fb i k = true ∨ (hasI a 1 = true ∧ sb i k = true) ∨ (hasI a 32 = true ∧ tb i k = true) ∨ (ahB row i k = true ∧ (hasI a 16 = true ∨ hasI a 8 = true ∧ rb i k = true)) := by
  unfold musB
  cases fb i k <;> cases hasI a 1 <;> cases sb i k <;> cases hasI a 32 <;> cases tb i k <;> cases ahB row i k <;> cases hasI a 16 <;> cases hasI a 8 <;> cases rb i k <;> simp
/-- What must be seen whatever the order is. -/
def baseR (x : Int) (S T F : Nat → Nat) : Nat → Nat :=
  let r := if askB x 1 then unionR F S 64 else F
  if askB x 32 then unionR r T 64 else r
theorem baseR_ok (x : Int) {S T F : Nat → Nat} (hS : RelOK S) (hT : RelOK T) (hF : RelOK F) : RelOK (baseR x S T F) := by
  unfold baseR
  have h1 : RelOK (if askB x 1 = true then unionR F S 64 else F) := by split; exact unionR_ok hF hS _; exact hF
  dsimp only
  split
  · exact unionR_ok h1 hT _
  · exact h1
theorem baseR_bit (x : Int) (S T F : Nat → Nat) (i j : Nat) (hi : i < 64) : E (baseR x S T F) i j ↔ E F i j ∨ (askB x 1 = true ∧ E S i j) ∨ (askB x 32 = true ∧ E T i j) := by
  unfold baseR
  dsimp only
  cases askB x 1 <;> cases askB x 32 <;> simp [unionR_bit _ _ _ _ hi, or_assoc]
/-- Rivals: of two that write to one key the other one sees the first one. -/
def rivC (R co : Nat → Nat) : Nat → Nat → Nat := fun k i => if i < k then co i &&& R i else co i
theorem rivC_ok {R co : Nat → Nat} (h : RelOK co) (k : Nat) : RelOK (rivC R co k) := fun i => by
  unfold rivC
  split
  · exact Nat.lt_of_le_of_lt Nat.and_le_left (h i)
  · exact h i
theorem rivC_step (R co : Nat → Nat) (k : Nat) : rowSet (rivC R co k) k (co k &&& R k) = rivC R co (k + 1) := by
  funext i
  rw [rowSet_get]
  unfold rivC
  by_cases e : i = k
  · rw [if_pos e, if_pos (by omega), e]
  · rw [if_neg e]
    by_cases e2 : i < k
    · rw [if_pos e2, if_pos (by omega)]
    · rw [if_neg e2, if_neg (by omega)]
theorem rivC_zero (R co : Nat → Nat) : rivC R co 0 = co := by
  funext i; unfold rivC; rw [if_neg (by omega)]
theorem rivC_bit (R co : Nat → Nat) (i j : Nat) (hi : i < 64) : E (rivC R co 64) i j ↔ E co i j ∧ E R i j := by
  show (rivC R co 64 i).testBit j = true ↔ _
  unfold rivC
  rw [if_pos hi, Nat.testBit_and, Bool.and_eq_true]
/-- What must be seen in an order. -/
def mustR (x : Int) (S T F R co : Nat → Nat) : Nat → Nat :=
  let v1 := if askB x 8 then unionR (baseR x S T F) (rivC R co 64) 64 else baseR x S T F
  if askB x 16 then unionR v1 co 64 else v1
theorem mustR_ok (x : Int) {S T F R co : Nat → Nat} (hS : RelOK S) (hT : RelOK T) (hF : RelOK F) (hc : RelOK co) : RelOK (mustR x S T F R co) := by
  unfold mustR
  have h1 : RelOK (if askB x 8 = true then unionR (baseR x S T F) (rivC R co 64) 64 else baseR x S T F) := by split; exact unionR_ok (baseR_ok x hS hT hF) (rivC_ok hc _) _; exact baseR_ok x hS hT hF
  dsimp only
  split
  · exact unionR_ok h1 hc _
  · exact h1
theorem mustR_bit (x : Int) (S T F R co : Nat → Nat) (i j : Nat) (hi : i < 64) : E (mustR x S T F R co) i j ↔ E (baseR x S T F) i j ∨ (askB x 8 = true ∧ E co i j ∧ E R i j) ∨ (askB x 16 = true ∧ E co i j) := by
  unfold mustR
  dsimp only
  cases askB x 8 <;> cases askB x 16 <;> simp [unionR_bit _ _ _ _ hi, rivC_bit _ _ _ _ hi, or_assoc]
/-- Is a thing asked: by the document. -/
theorem ask_has (x : Int) (m : Nat) (hm : m = 1 ∨ m = 2 ∨ m = 4 ∨ m = 8 ∨ m = 16 ∨ m = 32) : askB x m = hasI (six x : Nat) m := by
  unfold askB
  rw [and_small x m (by omega)]
  have key : ∀ z : Fin 64, ∀ m : Nat, (m = 1 ∨ m = 2 ∨ m = 4 ∨ m = 8 ∨ m = 16 ∨ m = 32) → (((z.val &&& m : Nat) : Int) != 0) = hasI (z.val : Int) m := by
    intro z m hm
    have h1 : ∀ z : Fin 64, (((z.val &&& 1 : Nat) : Int) != 0) = hasI (z.val : Int) 1 ∧ (((z.val &&& 2 : Nat) : Int) != 0) = hasI (z.val : Int) 2 ∧ (((z.val &&& 4 : Nat) : Int) != 0) = hasI (z.val : Int) 4 ∧ (((z.val &&& 8 : Nat) : Int) != 0) = hasI (z.val : Int) 8 ∧ (((z.val &&& 16 : Nat) : Int) != 0) = hasI (z.val : Int) 16 ∧ (((z.val &&& 32 : Nat) : Int) != 0) = hasI (z.val : Int) 32 := by decide +kernel
    obtain ⟨a, b, c, d, e, f⟩ := h1 z
    rcases hm with rfl | rfl | rfl | rfl | rfl | rfl
    · exact a
    · exact b
    · exact c
    · exact d
    · exact e
    · exact f
  exact key ⟨six x, six_lt x⟩ m hm
/-- What the object holds, bit by bit. -/
structure Bts (n : Nat) (fb sb tb rb : Nat → Nat → Bool) (S T F R : Nat → Nat) : Prop where
  hn : n ≤ 64
  f : ∀ i j, i < 64 → j < 64 → (E F i j ↔ i < n ∧ j < n ∧ i ≠ j ∧ fb i j = true)
  s : ∀ i j, i < 64 → j < 64 → (E S i j ↔ i < n ∧ j < n ∧ i ≠ j ∧ sb i j = true)
  t : ∀ i j, i < 64 → j < 64 → (E T i j ↔ i < n ∧ j < n ∧ i ≠ j ∧ tb i j = true)
  r : ∀ i j, i < n → j < n → (E R i j ↔ rb i j = true)
theorem Bts.base {n : Nat} {fb sb tb rb : Nat → Nat → Bool} {S T F R : Nat → Nat} (h : Bts n fb sb tb rb S T F R) (x : Int) (i j : Nat) (hi : i < 64) (hj : j < 64) :
    E (baseR x S T F) i j ↔ i < n ∧ j < n ∧ i ≠ j ∧ (fb i j = true ∨ (hasI (six x : Nat) 1 = true ∧ sb i j = true) ∨ (hasI (six x : Nat) 32 = true ∧ tb i j = true)) := by
  rw [baseR_bit _ _ _ _ _ _ hi, h.f i j hi hj, h.s i j hi hj, h.t i j hi hj, ask_has x 1 (by omega), ask_has x 32 (by omega)]
  constructor
  · rintro (⟨a, b, c, d⟩ | ⟨e, a, b, c, d⟩ | ⟨e, a, b, c, d⟩)
    · exact ⟨a, b, c, .inl d⟩
    · exact ⟨a, b, c, .inr (.inl ⟨e, d⟩)⟩
    · exact ⟨a, b, c, .inr (.inr ⟨e, d⟩)⟩
  · rintro ⟨a, b, c, d | ⟨e, d⟩ | ⟨e, d⟩⟩
    · exact .inl ⟨a, b, c, d⟩
    · exact .inr (.inl ⟨e, a, b, c, d⟩)
    · exact .inr (.inr ⟨e, a, b, c, d⟩)
theorem Bts.must {n : Nat} {fb sb tb rb : Nat → Nat → Bool} {S T F R : Nat → Nat} (h : Bts n fb sb tb rb S T F R) {row : List Int} (hr : RowOK row n) (x : Int) (i j : Nat) (hi : i < 64) (hj : j < 64) :
    E (mustR x S T F R (chainTo row row.length)) i j ↔ i < n ∧ j < n ∧ i ≠ j ∧ musB fb sb tb rb (six x : Nat) row i j = true := by
  have hn := h.hn
  rw [mustR_bit _ _ _ _ _ _ _ _ hi, h.base x i j hi hj, hr.chain hn i j hi hj, ask_has x 8 (by omega), ask_has x 16 (by omega), musB_iff]
  have hne : ahB row i j = true → i ≠ j := fun h1 e => by rw [e, ah_irr] at h1; cases h1
  constructor
  · rintro (⟨a, b, c, d⟩ | ⟨e, ⟨a, b, c⟩, d⟩ | ⟨e, a, b, c⟩)
    · refine ⟨a, b, c, ?_⟩
      rcases d with d | d | d
      · exact .inl d
      · exact .inr (.inl d)
      · exact .inr (.inr (.inl d))
    · exact ⟨a, b, hne c, .inr (.inr (.inr ⟨c, .inr ⟨e, (h.r i j a b).1 d⟩⟩))⟩
    · exact ⟨a, b, hne c, .inr (.inr (.inr ⟨c, .inl e⟩))⟩
  · rintro ⟨a, b, c, d | d | d | ⟨d, e | e⟩⟩
    · exact .inl ⟨a, b, c, .inl d⟩
    · exact .inl ⟨a, b, c, .inr (.inl d)⟩
    · exact .inl ⟨a, b, c, .inr (.inr d)⟩
    · exact .inr (.inr ⟨e, a, b, d⟩)
    · exact .inr (.inl ⟨e.1, ⟨a, b, d⟩, (h.r i j a b).2 e.2⟩)
/-- The least relation is the document's. -/
theorem Bts.is {n : Nat} {fb sb tb rb : Nat → Nat → Bool} {S T F R : Nat → Nat} (h : Bts n fb sb tb rb S T F R) {row : List Int} (hr : RowOK row n) (x : Int) {V : Nat → Nat} {l : List IPair}
    (hl : Lst x (chainTo row row.length) (mustR x S T F R (chainTo row row.length)) V) (hc : Clo x (chainTo row row.length) (E V)) (hd : DocOf (hasI (six x : Nat) 2) (hasI (six x : Nat) 4) (ahB row) (musB fb sb tb rb (six x : Nat) row) n l) : Is V l :=
  hd.is h.hn hl hc (fun i j hi hj => h.must hr x i j hi hj) (fun i j hi hj => hr.chain h.hn i j hi hj) (ask_has x 2 (by omega)) (ask_has x 4 (by omega))
end Go.Proofs.YtlhfpnkfapghoaaDoor
end

section
/- The document's answer of what must be seen (burgageref11): where one comes, who comes ahead, what must be, what follows. No condition but each theorem's own. -/
set_option linter.unusedVariables false
set_option linter.unusedSimpArgs false
namespace Go.Proofs.YtlhfpnkfapghoaaDoor
open Go.RowKit

theorem place_ref11 (v : Value) (row : List Int) (i : Int) (w : World) (hv : Ints w v row) : Calls Tryd.prog 94 #[v, .int .i64 i] w fun e w' => e = .returned (.int .i64 (plc row i)) ∧ w = w' := by
  obtain ⟨A, c, rfl⟩ := hv.shape
  obtain ⟨_, hlen, hcells⟩ := hv.at
  have HC := Lib.hid hcells
  clear hcells hv
  go_enter Tryd.func94, Tryd.ntmps94
  go_wp2_with fail
  go_loop [5] (fun q => ∃ k : Nat, q = .int .i64 k ∧ k ≤ row.length ∧ Hid (∀ m, m < k → row.getD m 0 ≠ i)) (fun q => row.length - (intOf q).toNat)
  case atStart => exact ⟨0, rfl, by omega, Lib.hid (fun j hj => by omega)⟩
  case round =>
    obtain ⟨k, rfl, hk, hn⟩ := hrel
    by_cases hlt : k < row.length
    · have hd : decide ((k : Int) < (row.length : Int)) = true := decide_eq_true (by omega)
      obtain ⟨ad, rfl, hx⟩ := HC.out k hlt
      by_cases e : row.getD k 0 = i
      · have HF := Lib.hid (plc_at hlt e hn.out)
        have hb : (row.getD k 0 == i) = true := by rw [beq_iff_eq]; exact e
        obtain ⟨z, hz⟩ : ∃ z, row.getD k 0 = z := ⟨_, rfl⟩
        rw [hz] at hx hb
        clear e hz
        go_wp2_with fail
        go_ret
        exact ⟨ret_int HF.out.symm, rfl⟩
      · have hn2 : Hid (∀ m, m < k + 1 → row.getD m 0 ≠ i) := Lib.hid (fun m hm => by
          by_cases h : m = k
          · rw [h]; exact e
          · exact hn.out m (by omega))
        have hb : (row.getD k 0 == i) = false := by rw [beq_eq_false_iff_ne]; exact e
        obtain ⟨z, hz⟩ : ∃ z, row.getD k 0 = z := ⟨_, rfl⟩
        rw [hz] at hx hb
        clear e hz
        go_wp2_with fail
        go_round
        case rel => exact ⟨k + 1, by go_num, by omega, hn2⟩
        case measure => simp [intOf]; omega
    · obtain rfl : k = row.length := by omega
      have hd : decide ((row.length : Int) < (row.length : Int)) = false := by simp
      have HF := Lib.hid (plc_no hn.out)
      go_wp2_with fail
      go_ret
      exact ⟨ret_int HF.out.symm, rfl⟩
theorem ahead_ref11 (v : Value) (row : List Int) (i k : Nat) (w : World) (hv : Ints w v row) : Calls Tryd.prog 123 #[v, .int .i64 i, .int .i64 k] w fun e w' => e = .returned (.bool (ahB row i k)) ∧ w = w' := by
  have H1 := Lib.hid (place_ref11 v row i w hv)
  have H2 := Lib.hid (place_ref11 v row k w hv)
  have HF := Lib.hid (show ahB row i k = decide (plc row (i : Int) < plc row (k : Int)) from rfl)
  obtain ⟨x, hx⟩ : ∃ x, plc row (i : Int) = x := ⟨_, rfl⟩
  obtain ⟨y, hy⟩ : ∃ y, plc row (k : Int) = y := ⟨_, rfl⟩
  rw [hx] at H1 HF
  rw [hy] at H2 HF
  clear hx hy hv
  go_enter Tryd.func123, Tryd.ntmps123
  go_wp2_with fail
  refine H1.out.mono ?_
  rintro e _ ⟨rfl, rfl⟩
  go_wp2_with fail
  refine H2.out.mono ?_
  rintro e _ ⟨rfl, rfl⟩
  go_wp2_with fail
  go_ret
  exact ⟨ret_bool HF.out.symm, rfl⟩
/-- What the document tells of a history, function by function. -/
structure DocF (w : World) (v : Value) (n : Nat) (fb sb tb rb : Nat → Nat → Bool) : Prop where
  shp : ∃ A cp, v = .slice A n cp
  le : n ≤ 64
  frm : ∀ i k, i < n → k < n → ∀ u, Ch nob w u → Calls Tryd.prog 28 #[v, .int .i64 i, .int .i64 k] u fun e w' => e = .returned (.bool (fb i k)) ∧ Ch nob u w'
  ses : ∀ i k, i < n → k < n → ∀ u, Ch nob w u → Calls Tryd.prog 29 #[v, .int .i64 i, .int .i64 k] u fun e w' => e = .returned (.bool (sb i k)) ∧ Ch nob u w'
  tim : ∀ i k, i < n → k < n → ∀ u, Ch nob w u → Calls Tryd.prog 30 #[v, .int .i64 i, .int .i64 k] u fun e w' => e = .returned (.bool (tb i k)) ∧ Ch nob u w'
  riv : ∀ i k, i < n → k < n → ∀ u, Ch nob w u → Calls Tryd.prog 124 #[v, .int .i64 i, .int .i64 k] u fun e w' => e = .returned (.bool (rb i k)) ∧ Ch nob u w'
theorem DocF.keep {w w' : World} {v : Value} {n : Nat} {fb sb tb rb : Nat → Nat → Bool} (h : DocF w v n fb sb tb rb) (hc : Ch nob w w') : DocF w' v n fb sb tb rb :=
  ⟨h.shp, h.le, fun i k hi hk u hu => h.frm i k hi hk u (hc.seq hu), fun i k hi hk u hu => h.ses i k hi hk u (hc.seq hu), fun i k hi hk u hu => h.tim i k hi hk u (hc.seq hu), fun i k hi hk u hu => h.riv i k hi hk u (hc.seq hu)⟩
theorem musB_flat (fb sb tb rb : Nat → Nat → Bool) (a : Int) (row : List Int) (i k : Nat) : musB fb sb tb rb a row i k = (fb i k || (hasI a 1 && sb i k) || (hasI a 32 && tb i k) || (ahB row i k && (hasI a 16 || (hasI a 8 && rb i k)))) := by
  unfold musB
  cases fb i k <;> cases hasI a 1 <;> cases sb i k <;> cases hasI a 32 <;> cases tb i k <;> cases ahB row i k <;> cases hasI a 16 <;> cases hasI a 8 <;> cases rb i k <;> rfl
set_option maxRecDepth 100000 in
set_option maxHeartbeats 4000000 in
theorem must_ref11 (w : World) (v rv : Value) (n : Nat) (fb sb tb rb : Nat → Nat → Bool) (a : Int) (row : List Int) (i k : Nat) (hD : DocF w v n fb sb tb rb) (hr : Ints w rv row) (ha : 0 ≤ a ∧ a < 64) (hi : i < n) (hk : k < n) :
    Calls Tryd.prog 87 #[v, .int .i64 a, rv, .int .i64 i, .int .i64 k] w fun e w' => e = .returned (.bool (musB fb sb tb rb a row i k)) ∧ Ch nob w w' := by
  have HF := Lib.hid (hD.frm i k hi hk)
  have HS := Lib.hid (hD.ses i k hi hk)
  have HT := Lib.hid (hD.tim i k hi hk)
  have HR := Lib.hid (hD.riv i k hi hk)
  have HA := Lib.hid (fun (u : World) (hc : Ch nob w u) => ahead_ref11 rv row i k u (hr.keep hc))
  have H1 := Lib.hid (has_ref a 1 ha.1 (by omega) (by omega))
  have H32 := Lib.hid (has_ref a 32 ha.1 (by omega) (by omega))
  have H16 := Lib.hid (has_ref a 16 ha.1 (by omega) (by omega))
  have H8 := Lib.hid (has_ref a 8 ha.1 (by omega) (by omega))
  have HM := Lib.hid (musB_flat fb sb tb rb a row i k)
  obtain ⟨m, hm⟩ : ∃ m, musB fb sb tb rb a row i k = m := ⟨_, rfl⟩
  obtain ⟨b1, hb1⟩ : ∃ b, fb i k = b := ⟨_, rfl⟩
  obtain ⟨b2, hb2⟩ : ∃ b, sb i k = b := ⟨_, rfl⟩
  obtain ⟨b3, hb3⟩ : ∃ b, tb i k = b := ⟨_, rfl⟩
  obtain ⟨b4, hb4⟩ : ∃ b, rb i k = b := ⟨_, rfl⟩
  obtain ⟨ah, hah⟩ : ∃ b, ahB row i k = b := ⟨_, rfl⟩
  obtain ⟨q1, hq1⟩ : ∃ b, hasI a 1 = b := ⟨_, rfl⟩
  obtain ⟨q32, hq32⟩ : ∃ b, hasI a 32 = b := ⟨_, rfl⟩
  obtain ⟨q16, hq16⟩ : ∃ b, hasI a 16 = b := ⟨_, rfl⟩
  obtain ⟨q8, hq8⟩ : ∃ b, hasI a 8 = b := ⟨_, rfl⟩
  rw [hm] at HM ⊢
  rw [hb1] at HF HM
  rw [hb2] at HS HM
  rw [hb3] at HT HM
  rw [hb4] at HR HM
  rw [hah] at HA HM
  rw [hq1] at H1 HM
  rw [hq32] at H32 HM
  rw [hq16] at H16 HM
  rw [hq8] at H8 HM
  clear hD hr ha hi hk hm hb1 hb2 hb3 hb4 hah hq1 hq32 hq16 hq8
  have hc := Ch.refl nob w
  go_enter Tryd.func87, Tryd.ntmps87
  go_wp2_with fail
  refine (HF.out w hc).mono ?_
  rintro e w1 ⟨rfl, hcA⟩
  have hc1 := hc.seq hcA
  clear hcA hc
  cases b1
  case false =>
    go_wp2_with fail
    refine (H1.out w1).mono ?_
    rintro e _ ⟨rfl, rfl⟩
    cases q1
    case false =>
      go_wp2_with fail
      refine (H32.out w1).mono ?_
      rintro e _ ⟨rfl, rfl⟩
      cases q32
      case false =>
        go_wp2_with fail
        refine (HA.out w1 hc1).mono ?_
        rintro e _ ⟨rfl, rfl⟩
        cases ah
        case false =>
          go_wp2_with fail
          go_ret
          exact ⟨ret_bool HM.out.symm, hc1⟩
        case true =>
          go_wp2_with fail
          refine (H16.out w1).mono ?_
          rintro e _ ⟨rfl, rfl⟩
          cases q16
          case false =>
            go_wp2_with fail
            refine (H8.out w1).mono ?_
            rintro e _ ⟨rfl, rfl⟩
            cases q8
            case false =>
              go_wp2_with fail
              go_ret
              exact ⟨ret_bool HM.out.symm, hc1⟩
            case true =>
              go_wp2_with fail
              refine (HR.out w1 hc1).mono ?_
              rintro e w9 ⟨rfl, hcA⟩
              have hc9 := hc1.seq hcA
              clear hcA hc1
              cases b4
              case false =>
                go_wp2_with fail
                go_ret
                exact ⟨ret_bool HM.out.symm, hc9⟩
              case true =>
                go_wp2_with fail
                go_ret
                exact ⟨ret_bool HM.out.symm, hc9⟩
          case true =>
            go_wp2_with fail
            go_ret
            exact ⟨ret_bool HM.out.symm, hc1⟩
      case true =>
        go_wp2_with fail
        refine (HT.out w1 hc1).mono ?_
        rintro e w5 ⟨rfl, hcA⟩
        have hc5 := hc1.seq hcA
        clear hcA hc1
        cases b3
        case false =>
          go_wp2_with fail
          refine (HA.out w5 hc5).mono ?_
          rintro e _ ⟨rfl, rfl⟩
          cases ah
          case false =>
            go_wp2_with fail
            go_ret
            exact ⟨ret_bool HM.out.symm, hc5⟩
          case true =>
            go_wp2_with fail
            refine (H16.out w5).mono ?_
            rintro e _ ⟨rfl, rfl⟩
            cases q16
            case false =>
              go_wp2_with fail
              refine (H8.out w5).mono ?_
              rintro e _ ⟨rfl, rfl⟩
              cases q8
              case false =>
                go_wp2_with fail
                go_ret
                exact ⟨ret_bool HM.out.symm, hc5⟩
              case true =>
                go_wp2_with fail
                refine (HR.out w5 hc5).mono ?_
                rintro e w9 ⟨rfl, hcA⟩
                have hc9 := hc5.seq hcA
                clear hcA hc5
                cases b4
                case false =>
                  go_wp2_with fail
                  go_ret
                  exact ⟨ret_bool HM.out.symm, hc9⟩
                case true =>
                  go_wp2_with fail
                  go_ret
                  exact ⟨ret_bool HM.out.symm, hc9⟩
            case true =>
              go_wp2_with fail
              go_ret
              exact ⟨ret_bool HM.out.symm, hc5⟩
        case true =>
          go_wp2_with fail
          go_ret
          exact ⟨ret_bool HM.out.symm, hc5⟩
    case true =>
      go_wp2_with fail
      refine (HS.out w1 hc1).mono ?_
      rintro e w3 ⟨rfl, hcA⟩
      have hc3 := hc1.seq hcA
      clear hcA hc1
      cases b2
      case false =>
        go_wp2_with fail
        refine (H32.out w3).mono ?_
        rintro e _ ⟨rfl, rfl⟩
        cases q32
        case false =>
          go_wp2_with fail
          refine (HA.out w3 hc3).mono ?_
          rintro e _ ⟨rfl, rfl⟩
          cases ah
          case false =>
            go_wp2_with fail
            go_ret
            exact ⟨ret_bool HM.out.symm, hc3⟩
          case true =>
            go_wp2_with fail
            refine (H16.out w3).mono ?_
            rintro e _ ⟨rfl, rfl⟩
            cases q16
            case false =>
              go_wp2_with fail
              refine (H8.out w3).mono ?_
              rintro e _ ⟨rfl, rfl⟩
              cases q8
              case false =>
                go_wp2_with fail
                go_ret
                exact ⟨ret_bool HM.out.symm, hc3⟩
              case true =>
                go_wp2_with fail
                refine (HR.out w3 hc3).mono ?_
                rintro e w9 ⟨rfl, hcA⟩
                have hc9 := hc3.seq hcA
                clear hcA hc3
                cases b4
                case false =>
                  go_wp2_with fail
                  go_ret
                  exact ⟨ret_bool HM.out.symm, hc9⟩
                case true =>
                  go_wp2_with fail
                  go_ret
                  exact ⟨ret_bool HM.out.symm, hc9⟩
            case true =>
              go_wp2_with fail
              go_ret
              exact ⟨ret_bool HM.out.symm, hc3⟩
        case true =>
          go_wp2_with fail
          refine (HT.out w3 hc3).mono ?_
          rintro e w5 ⟨rfl, hcA⟩
          have hc5 := hc3.seq hcA
          clear hcA hc3
          cases b3
          case false =>
            go_wp2_with fail
            refine (HA.out w5 hc5).mono ?_
            rintro e _ ⟨rfl, rfl⟩
            cases ah
            case false =>
              go_wp2_with fail
              go_ret
              exact ⟨ret_bool HM.out.symm, hc5⟩
            case true =>
              go_wp2_with fail
              refine (H16.out w5).mono ?_
              rintro e _ ⟨rfl, rfl⟩
              cases q16
              case false =>
                go_wp2_with fail
                refine (H8.out w5).mono ?_
                rintro e _ ⟨rfl, rfl⟩
                cases q8
                case false =>
                  go_wp2_with fail
                  go_ret
                  exact ⟨ret_bool HM.out.symm, hc5⟩
                case true =>
                  go_wp2_with fail
                  refine (HR.out w5 hc5).mono ?_
                  rintro e w9 ⟨rfl, hcA⟩
                  have hc9 := hc5.seq hcA
                  clear hcA hc5
                  cases b4
                  case false =>
                    go_wp2_with fail
                    go_ret
                    exact ⟨ret_bool HM.out.symm, hc9⟩
                  case true =>
                    go_wp2_with fail
                    go_ret
                    exact ⟨ret_bool HM.out.symm, hc9⟩
              case true =>
                go_wp2_with fail
                go_ret
                exact ⟨ret_bool HM.out.symm, hc5⟩
          case true =>
            go_wp2_with fail
            go_ret
            exact ⟨ret_bool HM.out.symm, hc5⟩
      case true =>
        go_wp2_with fail
        go_ret
        exact ⟨ret_bool HM.out.symm, hc3⟩
  case true =>
    go_wp2_with fail
    go_ret
    exact ⟨ret_bool HM.out.symm, hc1⟩
set_option maxRecDepth 100000 in
set_option maxHeartbeats 4000000 in
theorem follows_ref11 (w : World) (u rv : Value) (n : Nat) (l : List IPair) (a : Int) (row : List Int) (i k : Nat) (hl : Pairs w u l) (hr : Ints w rv row) (ha : 0 ≤ a ∧ a < 64) (hn : n ≤ 64) :
    Calls Tryd.prog 88 #[u, .int .i64 n, .int .i64 a, rv, .int .i64 i, .int .i64 k] w fun e w' => e = .returned (.bool (folB (hasI a 2) (hasI a 4) (ahB row) n l i k)) ∧ w = w' := by
  have HP := Lib.hid (fun (x y : Int) => has_ref02 u l x y w hl)
  have HA := Lib.hid (fun (j : Nat) => ahead_ref11 rv row i j w hr)
  have H2 := Lib.hid (has_ref a 2 ha.1 (by omega) (by omega) w)
  have H4 := Lib.hid (has_ref a 4 ha.1 (by omega) (by omega) w)
  obtain ⟨q2, hq2⟩ : ∃ b, hasI a 2 = b := ⟨_, rfl⟩
  obtain ⟨q4, hq4⟩ : ∃ b, hasI a 4 = b := ⟨_, rfl⟩
  rw [hq2] at H2 ⊢
  rw [hq4] at H4 ⊢
  obtain ⟨P, hP⟩ : ∃ P : Nat → Bool, (fun j : Nat => hasP l (j : Int) (k : Int) && (q2 && hasP l (i : Int) (j : Int) || q4 && ahB row i j)) = P := ⟨_, rfl⟩
  have HQ := Lib.hid (fun j => (congrFun hP j).symm)
  have HF := Lib.hid (show folB q2 q4 (ahB row) n l i k = (List.range n).any P from by rw [← hP]; rfl)
  obtain ⟨z, hz⟩ : ∃ z, folB q2 q4 (ahB row) n l i k = z := ⟨_, rfl⟩
  rw [hz] at HF ⊢
  clear hq2 hq4 hP hz hl hr ha
  go_enter Tryd.func88, Tryd.ntmps88
  go_wp2_with fail
  go_loop [13] (fun q => ∃ j : Nat, q = .int .i64 j ∧ j ≤ n ∧ Hid (∀ m, m < j → P m = false)) (fun q => n - (intOf q).toNat)
  case atStart => exact ⟨0, rfl, by omega, Lib.hid (fun j hj => by omega)⟩
  case round =>
    obtain ⟨j, rfl, hj, hst⟩ := hrel
    by_cases hlt : j < n
    · have hd : decide ((j : Int) < (n : Int)) = true := decide_eq_true (by omega)
      have HNO := Lib.hid (fun (h : P j = false) => (Lib.hid (fun m hm => by
          by_cases e : m = j
          · rw [e]; exact h
          · exact hst.out m (by omega)) : Hid (∀ m, m < j + 1 → P m = false)))
      have HYES := Lib.hid (fun (h : P j = true) => show z = true from by
          rw [HF.out, List.any_eq_true]
          exact ⟨j, List.mem_range.2 hlt, h⟩)
      have hpj := HQ.out j
      have c1 := Lib.hid (HP.out (j : Int) (k : Int))
      have c2 := Lib.hid (HP.out (i : Int) (j : Int))
      have c3 := Lib.hid (HA.out j)
      obtain ⟨h1, e1⟩ : ∃ b, hasP l (j : Int) (k : Int) = b := ⟨_, rfl⟩
      obtain ⟨h2, e2⟩ : ∃ b, hasP l (i : Int) (j : Int) = b := ⟨_, rfl⟩
      obtain ⟨h3, e3⟩ : ∃ b, ahB row i j = b := ⟨_, rfl⟩
      rw [e1] at c1 hpj
      rw [e2] at c2 hpj
      rw [e3] at c3 hpj
      have HPJ := Lib.hid hpj
      clear e1 e2 e3 hpj hst
      go_wp2_with fail
      refine c1.out.mono ?_
      rintro e _ ⟨rfl, rfl⟩
      cases h1
      case false =>
        have hh := HNO.out (by rw [HPJ.out]; rfl)
        go_wp2_with fail
        go_round
        case rel => exact ⟨j + 1, by go_num, by omega, hh⟩
        case measure => simp [intOf]; omega
      case true =>
        go_wp2_with fail
        refine H2.out.mono ?_
        rintro e _ ⟨rfl, rfl⟩
        cases q2
        case false =>
          go_wp2_with fail
          refine H4.out.mono ?_
          rintro e _ ⟨rfl, rfl⟩
          cases q4
          case false =>
            have hh := HNO.out (by rw [HPJ.out]; rfl)
            go_wp2_with fail
            go_round
            case rel => exact ⟨j + 1, by go_num, by omega, hh⟩
            case measure => simp [intOf]; omega
          case true =>
            go_wp2_with fail
            refine c3.out.mono ?_
            rintro e _ ⟨rfl, rfl⟩
            cases h3
            case false =>
              have hh := HNO.out (by rw [HPJ.out]; rfl)
              go_wp2_with fail
              go_round
              case rel => exact ⟨j + 1, by go_num, by omega, hh⟩
              case measure => simp [intOf]; omega
            case true =>
              have hh := Lib.hid (HYES.out (by rw [HPJ.out]; rfl))
              go_wp2_with fail
              go_ret
              exact ⟨ret_bool hh.out.symm, rfl⟩
        case true =>
          go_wp2_with fail
          refine c2.out.mono ?_
          rintro e _ ⟨rfl, rfl⟩
          cases h2
          case true =>
            have hh := Lib.hid (HYES.out (by rw [HPJ.out]; rfl))
            go_wp2_with fail
            go_ret
            exact ⟨ret_bool hh.out.symm, rfl⟩
          case false =>
            go_wp2_with fail
            refine H4.out.mono ?_
            rintro e _ ⟨rfl, rfl⟩
            cases q4
            case false =>
              have hh := HNO.out (by rw [HPJ.out]; rfl)
              go_wp2_with fail
              go_round
              case rel => exact ⟨j + 1, by go_num, by omega, hh⟩
              case measure => simp [intOf]; omega
            case true =>
              go_wp2_with fail
              refine c3.out.mono ?_
              rintro e _ ⟨rfl, rfl⟩
              cases h3
              case false =>
                have hh := HNO.out (by rw [HPJ.out]; rfl)
                go_wp2_with fail
                go_round
                case rel => exact ⟨j + 1, by go_num, by omega, hh⟩
                case measure => simp [intOf]; omega
              case true =>
                have hh := Lib.hid (HYES.out (by rw [HPJ.out]; rfl))
                go_wp2_with fail
                go_ret
                exact ⟨ret_bool hh.out.symm, rfl⟩
    · obtain rfl : j = n := by omega
      have hd : decide ((j : Int) < (j : Int)) = false := by simp
      have hh : Hid (z = false) := Lib.hid (by
        rw [HF.out, List.any_eq_false]
        intro m hm
        have := hst.out m (List.mem_range.1 hm)
        rw [this]; exact Bool.false_ne_true)
      go_wp2_with fail
      go_ret
      exact ⟨ret_bool hh.out.symm, rfl⟩
end Go.Proofs.YtlhfpnkfapghoaaDoor
end

section
/- The document's answer of what must be seen, whole (burgageref11.Of). No condition but each theorem's own. -/
set_option linter.unusedVariables false
set_option linter.unusedSimpArgs false
namespace Go.Proofs.YtlhfpnkfapghoaaDoor
open Go.RowKit

def lenV : Value → Nat
  | .slice _ n _ => n
  | _ => 0
def oneV : Value → Nat
  | .bool true => 1
  | _ => 0
theorem Pairs.lenV {w : World} {v : Value} {xs : List IPair} (h : Pairs w v xs) : lenV v = xs.length := by
  obtain ⟨A, c, rfl⟩ := h.shape; rfl
theorem hasP_put {l : List IPair} {a b : Int} {x : IPair} (h : x ∈ l) : x ∈ putP l a b := (mem_putP _ _ _ _).2 (.inl h)
theorem hasP_new {l : List IPair} {a b : Int} : (a, b) ∈ putP l a b := (mem_putP _ _ _ _).2 (.inr rfl)
/-- What the document's Of hands back. -/
def RetDoc (w : World) (p2 p4 : Bool) (ah mu : Nat → Nat → Bool) (n : Nat) (e : Ending) (w' : World) : Prop := ∃ u l, e = .returned u ∧ Pairs w' u l ∧ DocOf p2 p4 ah mu n l ∧ Ch nob w w'
set_option maxRecDepth 100000 in
set_option maxHeartbeats 4000000 in
theorem of_ref11 (w : World) (v rv : Value) (n : Nat) (fb sb tb rb : Nat → Nat → Bool) (a : Int) (row : List Int) (hD : DocF w v n fb sb tb rb) (hr : Ints w rv row) (ha : 0 ≤ a ∧ a < 64) :
    Calls Tryd.prog 26 #[v, .int .i64 a, rv] w (RetDoc w (hasI a 2) (hasI a 4) (ahB row) (musB fb sb tb rb a row) n) := by
  obtain ⟨A, cp, rfl⟩ := hD.shp
  have HMU := Lib.hid (fun (i k : Nat) (hi : i < n) (hk : k < n) (u : World) (hc : Ch nob w u) => must_ref11 u (.slice A n cp) rv n fb sb tb rb a row i k (hD.keep hc) (hr.keep hc) ha hi hk)
  have HFO := Lib.hid (fun (l : List IPair) (i k : Nat) (u : World) (vv : Value) (hc : Ch nob w u) (hl : Pairs u vv l) => follows_ref11 u vv rv n l a row i k hl (hr.keep hc) ha hD.le)
  have hn := hD.le
  obtain ⟨mu, hmu⟩ : ∃ m, musB fb sb tb rb a row = m := ⟨_, rfl⟩
  obtain ⟨p2, hp2⟩ : ∃ m, hasI a 2 = m := ⟨_, rfl⟩
  obtain ⟨p4, hp4⟩ : ∃ m, hasI a 4 = m := ⟨_, rfl⟩
  obtain ⟨ah, hah⟩ : ∃ m, ahB row = m := ⟨_, rfl⟩
  rw [hmu] at HMU ⊢
  rw [hp2, hp4, hah] at HFO ⊢
  clear hmu hp2 hp4 hah hD hr ha
  have HNN := Lib.hid (show n * n ≤ 4096 from Nat.le_trans (Nat.mul_le_mul hn hn) (by decide))
  have ho0 := (OwnP.made w w.heap.size 66 (Nat.le_refl _)).pairs
  have hc0 := (Ch.refl nob w).alloc (.cells #[] 66)
  go_enter Tryd.func26, Tryd.ntmps26
  go_wp2_with fail
  generalize w.alloc _ = w1 at ho0 hc0 ⊢
  go_loopw [7, 8] (fun o q wr => ∃ (i : Nat) (l : List IPair), q = .int .i64 i ∧ i ≤ n ∧ Pairs wr o l ∧ Hid (DocI p2 p4 ah mu n l) ∧ Hid (∀ a b : Nat, a < i → b < n → a ≠ b → mu a b = true → ((a : Int), (b : Int)) ∈ l) ∧ Ch nob w wr) (fun _ q _ => n - (intOf q).toNat)
  case atStart => exact ⟨0, [], rfl, by omega, ho0, Lib.hid DocI.nil, Lib.hid (fun a b h => by omega), hc0⟩
  case round =>
    clear ho0 hc0
    obtain ⟨i, l, rfl, hi, ho, hI, hM, hc⟩ := hrel
    by_cases hlt : i < n
    · have hd : decide ((i : Int) < (n : Int)) = true := decide_eq_true (by omega)
      have HM0 := Lib.hid (fun (a b : Nat) (h : a < i ∧ b < n ∨ a = i ∧ b < 0) => hM.out a b (by omega))
      go_wp2_with fail
      go_loopw [7, 9] (fun o q wr => ∃ (k : Nat) (l : List IPair), q = .int .i64 k ∧ k ≤ n ∧ Pairs wr o l ∧ Hid (DocI p2 p4 ah mu n l) ∧ Hid (∀ a b : Nat, (a < i ∧ b < n ∨ a = i ∧ b < k) → a ≠ b → mu a b = true → ((a : Int), (b : Int)) ∈ l) ∧ Ch nob w wr) (fun _ q _ => n - (intOf q).toNat)
      case atStart => exact ⟨0, l, rfl, by omega, ho, hI, Lib.hid (fun a b h => HM0.out a b h (by omega)), hc⟩
      case round =>
        clear ho hI hM hc HM0
        clear l
        obtain ⟨k, l, rfl, hk, ho, hI, hM, hc⟩ := hrel
        by_cases hlt2 : k < n
        · have hd2 : decide ((k : Int) < (n : Int)) = true := decide_eq_true (by omega)
          by_cases hik : i = k
          · have hd3 : ((i : Int) != (k : Int)) = false := by rw [hik]; simp
            have hM2 : Hid (∀ a b : Nat, (a < i ∧ b < n ∨ a = i ∧ b < k + 1) → a ≠ b → mu a b = true → ((a : Int), (b : Int)) ∈ l) := Lib.hid (fun a b h h2 => hM.out a b (by omega) h2)
            go_wp2_with fail
            go_roundw
            case rel => exact ⟨k + 1, l, by go_num, by omega, ho, hI, hM2, hc⟩
            case measure => simp [intOf]; omega
          · have hd3 : ((i : Int) != (k : Int)) = true := by simp; omega
            go_wp2_with fail
            have hmm := Lib.hid (HMU.out i k hlt hlt2 wr hc)
            obtain ⟨b, hb⟩ : ∃ b, mu i k = b := ⟨_, rfl⟩
            rw [hb] at hmm
            have HB := Lib.hid hb
            clear hb
            refine hmm.out.mono ?_
            rintro e w2 ⟨rfl, hcA⟩
            have ho2 := ho.keep hcA
            have hc2 := hc.seq hcA
            clear hcA hc ho hmm
            cases b with
            | false =>
              have hM2 : Hid (∀ a b : Nat, (a < i ∧ b < n ∨ a = i ∧ b < k + 1) → a ≠ b → mu a b = true → ((a : Int), (b : Int)) ∈ l) := Lib.hid (fun a b h h2 h3 => by
                by_cases e : a = i ∧ b = k
                · rw [e.1, e.2, HB.out] at h3; cases h3
                · exact hM.out a b (by omega) h2 h3)
              go_wp2_with fail
              go_roundw
              case rel => exact ⟨k + 1, l, by go_num, by omega, ho2, hI, hM2, hc2⟩
              case measure => simp [intOf]; omega
            | true =>
              have hlen : l.length ≤ 1000000 := by have := hI.out.len; have := HNN.out; omega
              have hI2 : Hid (DocI p2 p4 ah mu n (putP l (i : Int) (k : Int))) := Lib.hid (hI.out.put hlt hlt2 (.inl ⟨hik, HB.out⟩))
              have hM2 : Hid (∀ a b : Nat, (a < i ∧ b < n ∨ a = i ∧ b < k + 1) → a ≠ b → mu a b = true → ((a : Int), (b : Int)) ∈ putP l (i : Int) (k : Int)) := Lib.hid (fun a b h h2 h3 => by
                by_cases e : a = i ∧ b = k
                · rw [e.1, e.2]; exact hasP_new
                · exact hasP_put (hM.out a b (by omega) h2 h3))
              have HP := Lib.hid (put_ref02 _ l (i : Int) (k : Int) w2 ho2 hlen)
              clear hlen
              go_wp2_with fail
              refine HP.out.mono ?_
              rintro e w3 ⟨u3, rfl, ho3, hcB⟩
              have hc3 := hc2.seq hcB
              clear hcB hc2 ho2 HP
              go_wp2_with fail
              go_roundw
              case rel => exact ⟨k + 1, _, by go_num, by omega, ho3, hI2, hM2, hc3⟩
              case measure => simp [intOf]; omega
        · obtain rfl : k = n := by omega
          have hd2 : decide ((k : Int) < (k : Int)) = false := by simp
          have hM2 : Hid (∀ a b : Nat, a < i + 1 → b < k → a ≠ b → mu a b = true → ((a : Int), (b : Int)) ∈ l) := Lib.hid (fun a b h1 h2 => hM.out a b (by omega))
          go_wp2_with fail
          go_roundw
          case rel => exact ⟨i + 1, l, by go_num, by omega, ho, hI, hM2, hc⟩
          case measure => simp [intOf]; omega
    · obtain rfl : i = n := by omega
      have hd : decide ((i : Int) < (i : Int)) = false := by simp
      go_wp2_with fail
      go_loopw [7, 10] (fun o q wr => ∃ (m : Bool) (l : List IPair), q = .bool m ∧ Pairs wr o l ∧ Hid (DocI p2 p4 ah mu i l) ∧ Hid (∀ a b : Nat, a < i → b < i → a ≠ b → mu a b = true → ((a : Int), (b : Int)) ∈ l) ∧ Hid (m = false → ∀ a b : Nat, a < i → b < i → hasP l (a : Int) (b : Int) = false → folB p2 p4 ah i l a b = false) ∧ Ch nob w wr) (fun o q _ => 2 * (i * i - lenV o) + oneV q)
      case atStart => exact ⟨true, l, rfl, ho, hI, hM, Lib.hid (fun h => by cases h), hc⟩
      case round =>
        clear ho hI hM hc
        clear l
        obtain ⟨m, l, rfl, ho, hI, hM, hF, hc⟩ := hrel
        cases m with
        | false =>
          have hF2 := Lib.hid (hF.out rfl)
          clear hF
          go_wp2_with fail
          go_ret
          exact ⟨_, l, rfl, ho, ⟨hI.out, hM.out, hF2.out⟩, hc⟩
        | true =>
          have hlv := ho.lenV
          have HLV := Lib.hid hlv
          clear hlv hF
          go_wp2_with fail
          go_loopw [7, 10, 11] (fun o q x wr => ∃ (j : Nat) (m : Bool) (l2 : List IPair), x = .int .i64 j ∧ q = .bool m ∧ j ≤ i ∧ Pairs wr o l2 ∧ Hid (DocI p2 p4 ah mu i l2) ∧ Hid (∀ p, p ∈ l → p ∈ l2) ∧ Hid (m = true → l.length < l2.length) ∧ Hid (m = false → l2 = l ∧ ∀ a b : Nat, a < j → b < i → hasP l (a : Int) (b : Int) = false → folB p2 p4 ah i l a b = false) ∧ Ch nob w wr) (fun _ _ x _ => i - (intOf x).toNat)
          case atStart => exact ⟨0, false, l, rfl, rfl, by omega, ho, hI, Lib.hid (fun p h => h), Lib.hid (fun h => by cases h), Lib.hid (fun _ => ⟨rfl, fun a b h => by omega⟩), hc⟩
          case round =>
            clear ho hc
            obtain ⟨j, m, l2, rfl, rfl, hj, ho, hI2, hS, hL, hE, hc⟩ := hrel
            by_cases hlt : j < i
            · have hd2 : decide ((j : Int) < (i : Int)) = true := decide_eq_true (by omega)
              have hE0 : Hid (m = false → l2 = l ∧ ∀ a b : Nat, (a < j ∧ b < i ∨ a = j ∧ b < 0) → hasP l (a : Int) (b : Int) = false → folB p2 p4 ah i l a b = false) := Lib.hid (fun h => ⟨(hE.out h).1, fun a b h2 => (hE.out h).2 a b (by omega) (by omega)⟩)
              go_wp2_with fail
              go_loopw [7, 10, 12] (fun o q x wr => ∃ (k : Nat) (m : Bool) (l2 : List IPair), x = .int .i64 k ∧ q = .bool m ∧ k ≤ i ∧ Pairs wr o l2 ∧ Hid (DocI p2 p4 ah mu i l2) ∧ Hid (∀ p, p ∈ l → p ∈ l2) ∧ Hid (m = true → l.length < l2.length) ∧ Hid (m = false → l2 = l ∧ ∀ a b : Nat, (a < j ∧ b < i ∨ a = j ∧ b < k) → hasP l (a : Int) (b : Int) = false → folB p2 p4 ah i l a b = false) ∧ Ch nob w wr) (fun _ _ x _ => i - (intOf x).toNat)
              case atStart => exact ⟨0, m, l2, rfl, rfl, by omega, ho, hI2, hS, hL, hE0, hc⟩
              case round =>
                clear ho hI2 hS hL hE hE0 hc
                obtain ⟨k, m, l2, rfl, rfl, hk, ho, hI2, hS, hL, hE, hc⟩ := hrel
                by_cases hlt2 : k < i
                · have hd3 : decide ((k : Int) < (i : Int)) = true := decide_eq_true (by omega)
                  have c1 := Lib.hid (has_ref02 _ l2 (j : Int) (k : Int) wr ho)
                  obtain ⟨h1, e1⟩ : ∃ b, hasP l2 (j : Int) (k : Int) = b := ⟨_, rfl⟩
                  rw [e1] at c1
                  have HE1 := Lib.hid e1
                  clear e1
                  go_wp2_with fail
                  refine c1.out.mono ?_
                  rintro e _ ⟨rfl, rfl⟩
                  clear c1
                  cases h1 with
                  | true =>
                    have hE2 : Hid (m = false → l2 = l ∧ ∀ a b : Nat, (a < j ∧ b < i ∨ a = j ∧ b < k + 1) → hasP l (a : Int) (b : Int) = false → folB p2 p4 ah i l a b = false) := Lib.hid (fun h => ⟨(hE.out h).1, fun a b h2 h3 => by
                      by_cases e : a = j ∧ b = k
                      · have := HE1.out
                        rw [(hE.out h).1] at this
                        rw [e.1, e.2, this] at h3; cases h3
                      · exact (hE.out h).2 a b (by omega) h3⟩)
                    go_wp2_with fail
                    go_roundw
                    case rel => exact ⟨k + 1, m, l2, by go_num, rfl, by omega, ho, hI2, hS, hL, hE2, hc⟩
                    case measure => simp [intOf]; omega
                  | false =>
                    have c2 := Lib.hid (HFO.out l2 j k wr _ hc ho)
                    obtain ⟨h2, e2⟩ : ∃ b, folB p2 p4 ah i l2 j k = b := ⟨_, rfl⟩
                    rw [e2] at c2
                    have HE2 := Lib.hid e2
                    clear e2
                    go_wp2_with fail
                    refine c2.out.mono ?_
                    rintro e _ ⟨rfl, rfl⟩
                    clear c2
                    cases h2 with
                    | false =>
                      have hE2 : Hid (m = false → l2 = l ∧ ∀ a b : Nat, (a < j ∧ b < i ∨ a = j ∧ b < k + 1) → hasP l (a : Int) (b : Int) = false → folB p2 p4 ah i l a b = false) := Lib.hid (fun h => ⟨(hE.out h).1, fun a b h2 h3 => by
                        by_cases e : a = j ∧ b = k
                        · have := HE2.out
                          rw [(hE.out h).1] at this
                          rw [e.1, e.2]; exact this
                        · exact (hE.out h).2 a b (by omega) h3⟩)
                      go_wp2_with fail
                      go_roundw
                      case rel => exact ⟨k + 1, m, l2, by go_num, rfl, by omega, ho, hI2, hS, hL, hE2, hc⟩
                      case measure => simp [intOf]; omega
                    | true =>
                      have hlen : l2.length ≤ 1000000 := by have := hI2.out.len; have := HNN.out; omega
                      have hI3 : Hid (DocI p2 p4 ah mu i (putP l2 (j : Int) (k : Int))) := Lib.hid (hI2.out.put hlt hlt2 (.inr HE2.out))
                      have hS3 : Hid (∀ p, p ∈ l → p ∈ putP l2 (j : Int) (k : Int)) := Lib.hid (fun p h => hasP_put (hS.out p h))
                      have hL3 : Hid (true = true → l.length < (putP l2 (j : Int) (k : Int)).length) := Lib.hid (fun _ => by
                        have h1 := putP_new HE1.out
                        cases m with
                        | true => have := hL.out rfl; omega
                        | false => have := (hE.out rfl).1; rw [this] at h1 ⊢; omega)
                      have hE3 : Hid (true = false → putP l2 (j : Int) (k : Int) = l ∧ ∀ a b : Nat, (a < j ∧ b < i ∨ a = j ∧ b < k + 1) → hasP l (a : Int) (b : Int) = false → folB p2 p4 ah i l a b = false) := Lib.hid (fun h => by cases h)
                      have HP := Lib.hid (put_ref02 _ l2 (j : Int) (k : Int) wr ho hlen)
                      clear hlen
                      go_wp2_with fail
                      refine HP.out.mono ?_
                      rintro e w3 ⟨u3, rfl, ho3, hcB⟩
                      have hc3 := hc.seq hcB
                      clear hcB hc ho HP
                      go_wp2_with fail
                      go_roundw
                      case rel => exact ⟨k + 1, true, _, by go_num, rfl, by omega, ho3, hI3, hS3, Lib.hid (fun _ => hL3.out trivial), Lib.hid (fun h => by cases h), hc3⟩
                      case measure => simp [intOf]; omega
                · obtain rfl : k = i := by omega
                  have hd3 : decide ((k : Int) < (k : Int)) = false := by simp
                  have hE2 : Hid (m = false → l2 = l ∧ ∀ a b : Nat, a < j + 1 → b < k → hasP l (a : Int) (b : Int) = false → folB p2 p4 ah k l a b = false) := Lib.hid (fun h => ⟨(hE.out h).1, fun a b h2 h3 => (hE.out h).2 a b (by omega)⟩)
                  go_wp2_with fail
                  go_roundw
                  case rel => exact ⟨j + 1, m, l2, by go_num, rfl, by omega, ho, hI2, hS, hL, hE2, hc⟩
                  case measure => simp [intOf]; omega
            · obtain rfl : j = i := by omega
              have hd2 : decide ((j : Int) < (j : Int)) = false := by simp
              have hlv2 := Lib.hid ho.lenV
              have hM2 : Hid (∀ a b : Nat, a < j → b < j → a ≠ b → mu a b = true → ((a : Int), (b : Int)) ∈ l2) := Lib.hid (fun a b h1 h2 h3 h4 => hS.out _ (hM.out a b h1 h2 h3 h4))
              have hF2 : Hid (m = false → ∀ a b : Nat, a < j → b < j → hasP l2 (a : Int) (b : Int) = false → folB p2 p4 ah j l2 a b = false) := Lib.hid (fun h a b h1 h2 h3 => by
                have h4 := hE.out h
                rw [h4.1] at h3 ⊢
                exact h4.2 a b h1 h2 h3)
              go_wp2_with fail
              go_roundw
              case rel => exact ⟨m, l2, rfl, ho, hI2, hM2, hF2, hc⟩
              case measure =>
                have q1 := hI.out.len
                have q2 := hI2.out.len
                rw [hlv2.out, HLV.out]
                cases m with
                | true => have := hL.out rfl; show 2 * (j * j - l2.length) + 1 < 2 * (j * j - l.length) + 1; omega
                | false => rw [(hE.out rfl).1]; show 2 * (j * j - l.length) + 0 < 2 * (j * j - l.length) + 1; omega
end Go.Proofs.YtlhfpnkfapghoaaDoor
end

section
/- Of each two transactions whether one comes ahead of the other (order.pairs). No condition but each theorem's own. -/
set_option linter.unusedVariables false
set_option linter.unusedSimpArgs false
namespace Go.Proofs.YtlhfpnkfapghoaaDoor
open Go.RowKit Go.Maps

def sesB (hs : List Txr) (i k : Nat) : Bool := decide (i < k) && (hs.getD i txrZero).ses == (hs.getD k txrZero).ses
def timeB (hs : List Txr) (i k : Nat) : Bool := decide ((hs.getD i txrZero).com < (hs.getD k txrZero).beg)
set_option maxHeartbeats 2000000 in
theorem ahead_session (w : World) (v : Value) (hs : List Txr) (g i k : Nat) (hv : Txns w v hs) (hg : w.cell? ⟨g, 0, none⟩ = some v) (hi : i < hs.length) (hk : k < hs.length) : Calls Tryd.prog 73 #[.int .i64 i, .int .i64 k, .pointer (some ⟨g, 0, none⟩)] w fun e w' => e = .returned (.bool (sesB hs i k)) ∧ Ch nob w w' := by
  obtain ⟨A, cp, rfl⟩ := hv.shape
  have HV := Lib.hid hv
  have HI := Lib.hid hi
  have HK := Lib.hid hk
  obtain ⟨n, hn2⟩ : ∃ n, hs.length = n := ⟨_, rfl⟩
  have HN := Lib.hid hn2
  rw [hn2] at hi hk HV hg
  obtain ⟨ad, u1, rfl, hx0, _⟩ := HV.out.at.2.2 i HI.out
  obtain ⟨ad2, u2, hA, hy0, _⟩ := HV.out.at.2.2 k HK.out
  obtain rfl := Option.some.inj hA
  have HB := Lib.hid (show sesB hs i k = (decide (i < k) && (hs.getD i txrZero).ses == (hs.getD k txrZero).ses) from rfl)
  obtain ⟨a, ha⟩ : ∃ a, (hs.getD i txrZero).ses = a := ⟨_, rfl⟩
  obtain ⟨b, hb⟩ : ∃ b, (hs.getD k txrZero).ses = b := ⟨_, rfl⟩
  rw [ha] at hx0 HB
  rw [hb] at hy0 HB
  have X0 := fun u : Ext _ => Ext.cell hg u
  have X1 := fun u : Ext _ => Ext.cell hx0 u
  have X2 := fun u : Ext _ => Ext.cell hy0 u
  clear hv hn2 hA ha hb
  by_cases hlt : i < k
  · have hd : decide ((i : Int) < (k : Int)) = true := decide_eq_true (by omega)
    have HB2 := Lib.hid (show sesB hs i k = (a == b) from by rw [HB.out, decide_eq_true hlt, Bool.true_and])
    go_enter Tryd.func73, Tryd.ntmps73
    go_wp2_with fail
    refine wp_region_ch (w0 := _) (by kernel_rfl) (by kernel_rfl) (Ch.refl _ _) ?_
    repeat go_big_quiet_step (fail)
    refine wpQuiet_nil ?_
    rintro wq ⟨⟨_, hcq⟩, rfl⟩
    go_wp2_with fail
    go_ret
    exact ⟨ret_bool HB2.out.symm, hcq⟩
  · have hd : decide ((i : Int) < (k : Int)) = false := decide_eq_false (by omega)
    have HB2 := Lib.hid (show sesB hs i k = false from by rw [HB.out, decide_eq_false hlt, Bool.false_and])
    go_enter Tryd.func73, Tryd.ntmps73
    go_wp2_with fail
    refine wp_region_ch (w0 := _) (by kernel_rfl) (by kernel_rfl) (Ch.refl _ _) ?_
    repeat go_big_quiet_step (fail)
    refine wpQuiet_nil ?_
    rintro wq ⟨⟨_, hcq⟩, rfl⟩
    go_wp2_with fail
    go_ret
    exact ⟨ret_bool HB2.out.symm, hcq⟩
set_option maxHeartbeats 2000000 in
theorem ahead_time (w : World) (v : Value) (hs : List Txr) (g i k : Nat) (hv : Txns w v hs) (hg : w.cell? ⟨g, 0, none⟩ = some v) (hi : i < hs.length) (hk : k < hs.length) : Calls Tryd.prog 74 #[.int .i64 i, .int .i64 k, .pointer (some ⟨g, 0, none⟩)] w fun e w' => e = .returned (.bool (timeB hs i k)) ∧ Ch nob w w' := by
  obtain ⟨A, cp, rfl⟩ := hv.shape
  have HV := Lib.hid hv
  have HI := Lib.hid hi
  have HK := Lib.hid hk
  obtain ⟨n, hn2⟩ : ∃ n, hs.length = n := ⟨_, rfl⟩
  have HN := Lib.hid hn2
  rw [hn2] at hi hk HV hg
  obtain ⟨ad, u1, rfl, _, _, hx2, _⟩ := HV.out.at.2.2 i HI.out
  obtain ⟨ad2, u2, hA, _, hy1, _⟩ := HV.out.at.2.2 k HK.out
  obtain rfl := Option.some.inj hA
  have HB := Lib.hid (show timeB hs i k = decide ((hs.getD i txrZero).com < (hs.getD k txrZero).beg) from rfl)
  obtain ⟨a, ha⟩ : ∃ a, (hs.getD i txrZero).com = a := ⟨_, rfl⟩
  obtain ⟨b, hb⟩ : ∃ b, (hs.getD k txrZero).beg = b := ⟨_, rfl⟩
  rw [ha] at hx2 HB
  rw [hb] at hy1 HB
  have X0 := fun u : Ext _ => Ext.cell hg u
  have X1 := fun u : Ext _ => Ext.cell hx2 u
  have X2 := fun u : Ext _ => Ext.cell hy1 u
  clear hv hn2 hA ha hb
  go_enter Tryd.func74, Tryd.ntmps74
  go_wp2_with fail
  refine wp_region_ch (w0 := _) (by kernel_rfl) (by kernel_rfl) (Ch.refl _ _) ?_
  repeat go_big_quiet_step (fail)
  refine wpQuiet_nil ?_
  rintro wq ⟨⟨_, hcq⟩, rfl⟩
  go_wp2_with fail
  go_ret
  exact ⟨ret_bool HB.out.symm, hcq⟩

/-! ### All pairs -/
/-- Row i of the first k columns. -/
def rowB (q : Nat → Nat → Bool) (i : Nat) : Nat → Nat
  | 0 => 0
  | k + 1 => if i != k && q i k then Bits.put (rowB q i k) k else rowB q i k
theorem rowB_lt (q : Nat → Nat → Bool) (i : Nat) : ∀ k, k ≤ 64 → rowB q i k < 18446744073709551616
  | 0, _ => (by decide : 0 < 18446744073709551616)
  | k + 1, h => by
    unfold rowB
    split
    · exact Bits.put_lt _ _ (rowB_lt q i k (by omega)) (by omega)
    · exact rowB_lt q i k (by omega)
theorem rowB_bit (q : Nat → Nat → Bool) (i j : Nat) : ∀ k, (rowB q i k).testBit j = (decide (j < k) && (i != j && q i j))
  | 0 => by simp [rowB]
  | k + 1 => by
    unfold rowB
    split
    · rename_i h
      rw [Bits.testBit_put, rowB_bit q i j k]
      by_cases e : k = j
      · subst e; simp [h]
      · have : decide (j < k + 1) = decide (j < k) := by rw [decide_eq_decide]; omega
        rw [this]; simp [e]
    · rename_i h
      rw [rowB_bit q i j k]
      by_cases e : j = k
      · subst e
        have h2 : (i != j && q i j) = false := by simpa using h
        rw [h2]; simp
      · have : decide (j < k + 1) = decide (j < k) := by rw [decide_eq_decide]; omega
        rw [this]
def pairsW (q : Nat → Nat → Bool) (n i k : Nat) : Nat → Nat := fun a => if a < i then rowB q a n else if a = i then rowB q i k else 0
def pairsR (q : Nat → Nat → Bool) (n : Nat) : Nat → Nat := fun a => if a < n then rowB q a n else 0
theorem pairsW_ok (q : Nat → Nat → Bool) (n i k : Nat) (hn : n ≤ 64) (hk : k ≤ 64) : RelOK (pairsW q n i k) := fun a => by
  unfold pairsW
  split
  · exact rowB_lt q a n hn
  · split
    · exact rowB_lt q i k hk
    · decide
theorem pairsR_ok (q : Nat → Nat → Bool) (n : Nat) (hn : n ≤ 64) : RelOK (pairsR q n) := fun a => by
  unfold pairsR
  split
  · exact rowB_lt q a n hn
  · decide
theorem pairsW_add (q : Nat → Nat → Bool) (n i k : Nat) (hi : i < 64) (hk : k < 64) (h : (i != k && q i k) = true) : addR (pairsW q n i k) (i : Int) (k : Int) = pairsW q n i (k + 1) := by
  unfold addR inS
  rw [decide_eq_true (by omega), decide_eq_true (by omega)]
  funext a
  show rowSet _ _ _ a = _
  unfold rowSet pairsW withS inS
  rw [decide_eq_true (by omega)]
  simp only [Int.toNat_natCast, if_true]
  by_cases e : a = i
  · subst e
    simp only [Nat.lt_irrefl, if_false, if_true]
    show Bits.put (rowB q a k) k = rowB q a (k + 1)
    rw [show rowB q a (k + 1) = if a != k && q a k then Bits.put (rowB q a k) k else rowB q a k from rfl, if_pos h]
  · simp [e]
theorem pairsW_skip (q : Nat → Nat → Bool) (n i k : Nat) (h : (i != k && q i k) = false) : pairsW q n i k = pairsW q n i (k + 1) := by
  funext a
  unfold pairsW
  have e : rowB q i (k + 1) = rowB q i k := by
    show (if i != k && q i k then Bits.put (rowB q i k) k else rowB q i k) = _
    rw [h]; rfl
  rw [e]
theorem pairsW_next (q : Nat → Nat → Bool) (n i : Nat) : pairsW q n i n = pairsW q n (i + 1) 0 := by
  funext a
  unfold pairsW
  by_cases e : a < i
  · rw [if_pos e, if_pos (by omega)]
  · rw [if_neg e]
    by_cases e2 : a = i
    · subst e2
      rw [if_pos rfl, if_pos (by omega)]
    · rw [if_neg e2, if_neg (by omega)]
      split <;> rfl
theorem pairsW_end (q : Nat → Nat → Bool) (n : Nat) : pairsW q n n 0 = pairsR q n := by
  funext a
  unfold pairsW pairsR
  by_cases e : a < n
  · rw [if_pos e, if_pos e]
  · rw [if_neg e, if_neg e]
    split <;> rfl
theorem pairs_bit (q : Nat → Nat → Bool) (n i k : Nat) (hi : i < n) (hk : k < n) (hn : n ≤ 64) : hasR (pairsR q n) (i : Int) (k : Int) = (i != k && q i k) := by
  unfold hasR inS pairsR hasS inS
  rw [decide_eq_true (by omega), decide_eq_true (by omega)]
  simp only [Int.toNat_natCast, Bool.true_and]
  rw [if_pos hi, rowB_bit, decide_eq_true hk, Bool.true_and]
attribute [local go_sem ↓] zero_rel
set_option maxRecDepth 100000 in
set_option maxHeartbeats 4000000 in
theorem pairs_session (w : World) (v : Value) (hs : List Txr) (g : Nat) (q : Nat → Nat → Bool) (hv : Txns w v hs) (hn : hs.length ≤ 64)
    (hq : ∀ (w1 : World) (i k : Nat), Ch nob w w1 → i < hs.length → k < hs.length → Calls Tryd.prog 73 #[.int .i64 i, .int .i64 k, .pointer (some ⟨g, 0, none⟩)] w1 fun e w' => e = .returned (.bool (q i k)) ∧ Ch nob w1 w') :
    Calls Tryd.prog 72 #[v, .func (.func 73) #[] #[.pointer (some ⟨g, 0, none⟩)]] w fun e w' => e = .returned (.agg (relArr (pairsR q hs.length))) ∧ Ch nob w w' := by
  obtain ⟨A, cp, rfl⟩ := hv.shape
  obtain ⟨n, hn2⟩ : ∃ n, hs.length = n := ⟨_, rfl⟩
  rw [hn2] at hv hn hq ⊢
  have HQ := Lib.hid hq
  clear hv hn2 hq
  go_enter Tryd.func72, Tryd.ntmps72
  go_wp2_with fail
  obtain ⟨hz1, hr1, hc1, hs1⟩ := two_new w (relArr fun _ => 0) (relArr fun _ => 0) 40 40
  generalize (w.alloc _).alloc _ = w1 at hr1 hz1 hc1 ⊢
  clear hs1
  have hr2 : Hid (Blk w1 (w.heap.size + 1) (relArr (pairsW q n 0 0)) 40) := Lib.hid (by
    rw [show pairsW q n 0 0 = fun _ => 0 from by funext a; unfold pairsW; rw [if_neg (by omega)]; split <;> rfl]
    exact hr1)
  have hz2 := Lib.hid hz1
  clear hr1 hz1
  go_loopw [10] (fun x wr => ∃ i : Nat, x = .int .i64 i ∧ i ≤ n ∧ Hid (Blk wr (w.heap.size + 1) (relArr (pairsW q n i 0)) 40) ∧ Hid (Blk wr w.heap.size (relArr fun _ => 0) 40) ∧ Ch nob w wr) (fun x _ => n - (intOf x).toNat)
  case atStart => exact ⟨0, rfl, Nat.zero_le _, hr2, hz2, hc1⟩
  case round =>
    clear hr2 hz2 hc1
    obtain ⟨i, rfl, hi, hr, hz, hc⟩ := hrel
    by_cases hlt : i < n
    · have hd : decide ((i : Int) < (n : Int)) = true := decide_eq_true (by omega)
      go_wp2_with fail
      go_loopw [15] (fun x wr => ∃ k : Nat, x = .int .i64 k ∧ k ≤ n ∧ Hid (Blk wr (w.heap.size + 1) (relArr (pairsW q n i k)) 40) ∧ Hid (Blk wr w.heap.size (relArr fun _ => 0) 40) ∧ Ch nob w wr) (fun x _ => n - (intOf x).toNat)
      case atStart => exact ⟨0, rfl, Nat.zero_le _, hr, hz, hc⟩
      case round =>
        clear hr hz hc
        obtain ⟨k, rfl, hk, hr, hz, hc⟩ := hrel
        by_cases hlt2 : k < n
        · have hd2 : decide ((k : Int) < (n : Int)) = true := decide_eq_true (by omega)
          by_cases hik : i = k
          · have hne : ((i : Int) != (k : Int)) = false := by rw [hik]; simp
            have HSK := Lib.hid (pairsW_skip q n i k (by rw [hik]; simp))
            have hr2 : Hid (Blk wr (w.heap.size + 1) (relArr (pairsW q n i (k + 1))) 40) := Lib.hid (by rw [← HSK.out]; exact hr.out)
            clear hik
            go_wp2_with fail
            go_roundw
            case rel => exact ⟨k + 1, by go_num, by omega, hr2, hz, hc⟩
            case measure => simp [intOf]; omega
          · have hne : ((i : Int) != (k : Int)) = true := by simp; omega
            have hne2 : (i != k) = true := by simp [hik]
            have HC := Lib.hid (HQ.out wr i k hc hlt hlt2)
            go_wp2_with fail
            refine HC.out.mono ?_
            rintro e w2 ⟨rfl, hcq⟩
            have hr3 := Lib.hid (hr.out.ch hcq (fun h => h))
            have hz3 := Lib.hid (hz.out.ch hcq (fun h => h))
            have hc3 := hc.seq hcq
            clear HC hcq hr hz hc
            cases hqb : q i k with
            | false =>
              have HSK := Lib.hid (pairsW_skip q n i k (by rw [hqb]; simp))
              have hr2 : Hid (Blk w2 (w.heap.size + 1) (relArr (pairsW q n i (k + 1))) 40) := Lib.hid (by rw [← HSK.out]; exact hr3.out)
              clear hqb
              go_wp2_with fail
              go_roundw
              case rel => exact ⟨k + 1, by go_num, by omega, hr2, hz3, hc3⟩
              case measure => simp [intOf]; omega
            | true =>
              have HAD := Lib.hid (pairsW_add q n i k (by omega) (by omega) (by rw [hqb, hne2]; rfl))
              clear hqb
              go_wp2_with fail
              refine (add_rel _ (pairsW_ok q n i k hn (by omega)) (w.heap.size + 1) i k _ hr3.out).mono ?_
              rintro e w4 ⟨rfl, hb4, hc4⟩
              rw [HAD.out] at hb4
              have hr5 := Lib.hid hb4
              have hz5 := Lib.hid (hz3.out.ch hc4 (fun h => by have h' : w.heap.size = w.heap.size + 1 := h; omega))
              have hc5 := hc3.fresh hc4 (by omega)
              clear hb4 hc4 hr3 hz3 hc3
              go_wp2_with fail
              go_roundw
              case rel => exact ⟨k + 1, by go_num, by omega, hr5, hz5, hc5⟩
              case measure => simp [intOf]; omega
        · have hd2 : decide ((k : Int) < (n : Int)) = false := decide_eq_false (by omega)
          obtain rfl : k = n := by omega
          have hr2 : Hid (Blk wr (w.heap.size + 1) (relArr (pairsW q k (i + 1) 0)) 40) := Lib.hid (by rw [← pairsW_next]; exact hr.out)
          go_wp2_with fail
          go_roundw
          case rel => exact ⟨i + 1, by go_num, by omega, hr2, hz, hc⟩
          case measure => simp [intOf]; omega
    · have hd : decide ((i : Int) < (n : Int)) = false := decide_eq_false (by omega)
      obtain rfl : i = n := by omega
      have hr2 := hr.out
      rw [pairsW_end] at hr2
      have hsz : (relArr (pairsR q i)).size = 64 := relArr_size _
      have hce := relArr_cells (pairsR q i)
      obtain ⟨C, hC⟩ : ∃ C, relArr (pairsR q i) = C := ⟨_, rfl⟩
      have HCC := Lib.hid hC
      rw [hC] at hsz hce hr2
      obtain ⟨Z, hZ⟩ : ∃ Z, (relArr fun _ => 0) = Z := ⟨_, rfl⟩
      have hzz : Z.size = 64 := by rw [← hZ]; exact relArr_size _
      have hzo := hz.out
      rw [hZ] at hzo
      clear hC hZ hr hz
      go_wp2_with (first | (refine wpList_load_row rfl 40 (.tmp 5) rfl (w.heap.size + 1) rfl 40 C (0, 0) _ hr2 rfl rfl (by rw [hsz]; kernel_rfl) ?_) | (refine wpList_store_row rfl 40 (.tmp 4) (.tmp 32) rfl w.heap.size C rfl rfl 40 _ hzo (by rw [hsz]; kernel_rfl) (by rw [hzz, hsz]) hce ?_))
      have hz3 := hzo.row C
      have hc3 := hc.setRow w.heap.size C (fun h => by omega)
      exact bodyPost_ret (v := .agg C) (results_cell_row rfl _ _ w.heap.size 40 C (0, 0) _ rfl hz3 rfl rfl (by rw [hsz]; kernel_rfl)) rfl ⟨by rw [HCC.out], hc3⟩
set_option maxRecDepth 100000 in
set_option maxHeartbeats 4000000 in
theorem pairs_time (w : World) (v : Value) (hs : List Txr) (g : Nat) (q : Nat → Nat → Bool) (hv : Txns w v hs) (hn : hs.length ≤ 64)
    (hq : ∀ (w1 : World) (i k : Nat), Ch nob w w1 → i < hs.length → k < hs.length → Calls Tryd.prog 74 #[.int .i64 i, .int .i64 k, .pointer (some ⟨g, 0, none⟩)] w1 fun e w' => e = .returned (.bool (q i k)) ∧ Ch nob w1 w') :
    Calls Tryd.prog 72 #[v, .func (.func 74) #[] #[.pointer (some ⟨g, 0, none⟩)]] w fun e w' => e = .returned (.agg (relArr (pairsR q hs.length))) ∧ Ch nob w w' := by
  obtain ⟨A, cp, rfl⟩ := hv.shape
  obtain ⟨n, hn2⟩ : ∃ n, hs.length = n := ⟨_, rfl⟩
  rw [hn2] at hv hn hq ⊢
  have HQ := Lib.hid hq
  clear hv hn2 hq
  go_enter Tryd.func72, Tryd.ntmps72
  go_wp2_with fail
  obtain ⟨hz1, hr1, hc1, hs1⟩ := two_new w (relArr fun _ => 0) (relArr fun _ => 0) 40 40
  generalize (w.alloc _).alloc _ = w1 at hr1 hz1 hc1 ⊢
  clear hs1
  have hr2 : Hid (Blk w1 (w.heap.size + 1) (relArr (pairsW q n 0 0)) 40) := Lib.hid (by
    rw [show pairsW q n 0 0 = fun _ => 0 from by funext a; unfold pairsW; rw [if_neg (by omega)]; split <;> rfl]
    exact hr1)
  have hz2 := Lib.hid hz1
  clear hr1 hz1
  go_loopw [10] (fun x wr => ∃ i : Nat, x = .int .i64 i ∧ i ≤ n ∧ Hid (Blk wr (w.heap.size + 1) (relArr (pairsW q n i 0)) 40) ∧ Hid (Blk wr w.heap.size (relArr fun _ => 0) 40) ∧ Ch nob w wr) (fun x _ => n - (intOf x).toNat)
  case atStart => exact ⟨0, rfl, Nat.zero_le _, hr2, hz2, hc1⟩
  case round =>
    clear hr2 hz2 hc1
    obtain ⟨i, rfl, hi, hr, hz, hc⟩ := hrel
    by_cases hlt : i < n
    · have hd : decide ((i : Int) < (n : Int)) = true := decide_eq_true (by omega)
      go_wp2_with fail
      go_loopw [15] (fun x wr => ∃ k : Nat, x = .int .i64 k ∧ k ≤ n ∧ Hid (Blk wr (w.heap.size + 1) (relArr (pairsW q n i k)) 40) ∧ Hid (Blk wr w.heap.size (relArr fun _ => 0) 40) ∧ Ch nob w wr) (fun x _ => n - (intOf x).toNat)
      case atStart => exact ⟨0, rfl, Nat.zero_le _, hr, hz, hc⟩
      case round =>
        clear hr hz hc
        obtain ⟨k, rfl, hk, hr, hz, hc⟩ := hrel
        by_cases hlt2 : k < n
        · have hd2 : decide ((k : Int) < (n : Int)) = true := decide_eq_true (by omega)
          by_cases hik : i = k
          · have hne : ((i : Int) != (k : Int)) = false := by rw [hik]; simp
            have HSK := Lib.hid (pairsW_skip q n i k (by rw [hik]; simp))
            have hr2 : Hid (Blk wr (w.heap.size + 1) (relArr (pairsW q n i (k + 1))) 40) := Lib.hid (by rw [← HSK.out]; exact hr.out)
            clear hik
            go_wp2_with fail
            go_roundw
            case rel => exact ⟨k + 1, by go_num, by omega, hr2, hz, hc⟩
            case measure => simp [intOf]; omega
          · have hne : ((i : Int) != (k : Int)) = true := by simp; omega
            have hne2 : (i != k) = true := by simp [hik]
            have HC := Lib.hid (HQ.out wr i k hc hlt hlt2)
            go_wp2_with fail
            refine HC.out.mono ?_
            rintro e w2 ⟨rfl, hcq⟩
            have hr3 := Lib.hid (hr.out.ch hcq (fun h => h))
            have hz3 := Lib.hid (hz.out.ch hcq (fun h => h))
            have hc3 := hc.seq hcq
            clear HC hcq hr hz hc
            cases hqb : q i k with
            | false =>
              have HSK := Lib.hid (pairsW_skip q n i k (by rw [hqb]; simp))
              have hr2 : Hid (Blk w2 (w.heap.size + 1) (relArr (pairsW q n i (k + 1))) 40) := Lib.hid (by rw [← HSK.out]; exact hr3.out)
              clear hqb
              go_wp2_with fail
              go_roundw
              case rel => exact ⟨k + 1, by go_num, by omega, hr2, hz3, hc3⟩
              case measure => simp [intOf]; omega
            | true =>
              have HAD := Lib.hid (pairsW_add q n i k (by omega) (by omega) (by rw [hqb, hne2]; rfl))
              clear hqb
              go_wp2_with fail
              refine (add_rel _ (pairsW_ok q n i k hn (by omega)) (w.heap.size + 1) i k _ hr3.out).mono ?_
              rintro e w4 ⟨rfl, hb4, hc4⟩
              rw [HAD.out] at hb4
              have hr5 := Lib.hid hb4
              have hz5 := Lib.hid (hz3.out.ch hc4 (fun h => by have h' : w.heap.size = w.heap.size + 1 := h; omega))
              have hc5 := hc3.fresh hc4 (by omega)
              clear hb4 hc4 hr3 hz3 hc3
              go_wp2_with fail
              go_roundw
              case rel => exact ⟨k + 1, by go_num, by omega, hr5, hz5, hc5⟩
              case measure => simp [intOf]; omega
        · have hd2 : decide ((k : Int) < (n : Int)) = false := decide_eq_false (by omega)
          obtain rfl : k = n := by omega
          have hr2 : Hid (Blk wr (w.heap.size + 1) (relArr (pairsW q k (i + 1) 0)) 40) := Lib.hid (by rw [← pairsW_next]; exact hr.out)
          go_wp2_with fail
          go_roundw
          case rel => exact ⟨i + 1, by go_num, by omega, hr2, hz, hc⟩
          case measure => simp [intOf]; omega
    · have hd : decide ((i : Int) < (n : Int)) = false := decide_eq_false (by omega)
      obtain rfl : i = n := by omega
      have hr2 := hr.out
      rw [pairsW_end] at hr2
      have hsz : (relArr (pairsR q i)).size = 64 := relArr_size _
      have hce := relArr_cells (pairsR q i)
      obtain ⟨C, hC⟩ : ∃ C, relArr (pairsR q i) = C := ⟨_, rfl⟩
      have HCC := Lib.hid hC
      rw [hC] at hsz hce hr2
      obtain ⟨Z, hZ⟩ : ∃ Z, (relArr fun _ => 0) = Z := ⟨_, rfl⟩
      have hzz : Z.size = 64 := by rw [← hZ]; exact relArr_size _
      have hzo := hz.out
      rw [hZ] at hzo
      clear hC hZ hr hz
      go_wp2_with (first | (refine wpList_load_row rfl 40 (.tmp 5) rfl (w.heap.size + 1) rfl 40 C (0, 0) _ hr2 rfl rfl (by rw [hsz]; kernel_rfl) ?_) | (refine wpList_store_row rfl 40 (.tmp 4) (.tmp 32) rfl w.heap.size C rfl rfl 40 _ hzo (by rw [hsz]; kernel_rfl) (by rw [hzz, hsz]) hce ?_))
      have hz3 := hzo.row C
      have hc3 := hc.setRow w.heap.size C (fun h => by omega)
      exact bodyPost_ret (v := .agg C) (results_cell_row rfl _ _ w.heap.size 40 C (0, 0) _ rfl hz3 rfl rfl (by rw [hsz]; kernel_rfl)) rfl ⟨by rw [HCC.out], hc3⟩
end Go.Proofs.YtlhfpnkfapghoaaDoor
end
