/- Texts of this claim, merged: SetPure Pop Bits Set Rel Rel2 OrdA Yield OrdB OrdC OrdD OrdE OrdF OrdG OrdH OrdO OrdN Ref08 Ref08b Ref08c OrdP OrdT OrdQ Ref08d Ref08e. -/
import Derived.Test.YtobfanodjdkkoaaPk0
import Derived.Test.YtobfanodjdkkoaaPk1
import Derived.Test.YtobfanodjdkkoaaPk3
import Derived.Test.YtobfanodjdkkoaaPk4
import Derived.StillTailTactics
import Derived.Laws.Tables
import Derived.Deep.RegionLawGrows
section
/- Plain law: sets of numbers from 0 to 63 as bits of one number: with, without, the least one, how many, all. No condition. -/
set_option linter.unusedVariables false
set_option linter.unusedSimpArgs false
namespace Go.Proofs.Ytobfanodjdkkoaa
open Go.RowKit
namespace Bits

theorem wrap_u64 (n : Int) (h0 : 0 ≤ n) (h1 : n < 2 ^ 64) : IntKind.u64.wrap n = n := by
  simp [IntKind.wrap, IntKind.bits, IntKind.signed]; omega
theorem and_u64 (a b : Nat) (ha : a < 2 ^ 64) (hb : b < 2 ^ 64) : bits .and .u64 a b = ((a &&& b : Nat) : Int) := (bits_nat .u64 64 (by decide) wrap_u64 a b ha hb).1
theorem or_u64 (a b : Nat) (ha : a < 2 ^ 64) (hb : b < 2 ^ 64) : bits .or .u64 a b = ((a ||| b : Nat) : Int) := (bits_nat .u64 64 (by decide) wrap_u64 a b ha hb).2
theorem andNot_u64 (a b : Nat) (ha : a < 2 ^ 64) (hb : b < 2 ^ 64) : bits .andNot .u64 a b = ((a ^^^ (a &&& b) : Nat) : Int) := by
  have h : ∀ x y : BitVec 64, x &&& ~~~y = x ^^^ (x &&& y) := by
    intro x y
    ext i hi
    simp
    cases x[i] <;> cases y[i] <;> rfl
  have h2 : bits .andNot .u64 a b = IntKind.u64.wrap ((BitVec.ofInt 64 (a : Int) &&& ~~~(BitVec.ofInt 64 (b : Int))).toNat : Int) := rfl
  rw [h2, h, BitVec.ofInt_natCast, BitVec.ofInt_natCast, BitVec.toNat_xor, BitVec.toNat_and, BitVec.toNat_ofNat, BitVec.toNat_ofNat, Nat.mod_eq_of_lt ha, Nat.mod_eq_of_lt hb]
  refine wrap_u64 _ (by omega) ?_
  have : a ^^^ (a &&& b) < 2 ^ 64 := Nat.xor_lt_two_pow ha (Nat.lt_of_le_of_lt Nat.and_le_left ha)
  omega

/-- With, without a number. -/
def put (s n : Nat) : Nat := s ||| 2 ^ n
def del (s n : Nat) : Nat := s ^^^ (s &&& 2 ^ n)
theorem put_lt (s n : Nat) (hs : s < 2 ^ 64) (hn : n < 64) : put s n < 2 ^ 64 := Nat.or_lt_two_pow hs (Nat.pow_lt_pow_right (by decide) hn)
theorem del_lt (s n : Nat) (hs : s < 2 ^ 64) : del s n < 2 ^ 64 := Nat.xor_lt_two_pow hs (Nat.lt_of_le_of_lt Nat.and_le_left hs)
theorem testBit_put (s n i : Nat) : (put s n).testBit i = (s.testBit i || decide (n = i)) := by
  unfold put; rw [Nat.testBit_or, Nat.testBit_two_pow]
theorem testBit_del (s n i : Nat) : (del s n).testBit i = (s.testBit i && !decide (n = i)) := by
  unfold del; rw [Nat.testBit_xor, Nat.testBit_and, Nat.testBit_two_pow]
  cases s.testBit i <;> cases decide (n = i) <;> rfl
theorem bit_div (s n : Nat) : (s / 2 ^ n % 2 = 1) ↔ s.testBit n = true := by
  rw [Nat.testBit_eq_decide_div_mod_eq]; simp
theorem high (s i : Nat) (hs : s < 2 ^ 64) (hi : 64 ≤ i) : s.testBit i = false :=
  Nat.testBit_lt_two_pow (Nat.lt_of_lt_of_le hs (Nat.pow_le_pow_right (by decide) hi))
theorem ext64 {s t : Nat} (hs : s < 2 ^ 64) (ht : t < 2 ^ 64) (h : ∀ i, i < 64 → s.testBit i = t.testBit i) : s = t := by
  refine Nat.eq_of_testBit_eq fun i => ?_
  by_cases hi : i < 64
  · exact h i hi
  · rw [high s i hs (by omega), high t i ht (by omega)]

theorem and_halves (a b : Nat) : a &&& b = 2 * (a / 2 &&& b / 2) + if a % 2 = 1 ∧ b % 2 = 1 then 1 else 0 := by
  have h1 := @Nat.and_div_two a b
  have h2 := @Nat.and_mod_two_eq_one a b
  split
  · rename_i h
    have := h2.2 h
    omega
  · rename_i h
    have : (a &&& b) % 2 = 0 := by
      rcases Nat.mod_two_eq_zero_or_one (a &&& b) with h3 | h3
      · exact h3
      · exact absurd (h2.1 h3) h
    omega
theorem and_compl (n a : Nat) (ha : a < 2 ^ n) : a &&& (2 ^ n - (a + 1)) = 0 := by
  refine Nat.eq_of_testBit_eq fun i => ?_
  rw [Nat.testBit_and, Nat.testBit_two_pow_sub_succ ha, Nat.zero_testBit]
  cases a.testBit i <;> simp
/-- The least one, by what Go's library does: 'x & -x' is a power of two. -/
theorem low (n : Nat) : ∀ x, x < 2 ^ n → x ≠ 0 → ∃ k, k < n ∧ x &&& (2 ^ n - x) = 2 ^ k ∧ x.testBit k = true ∧ ∀ j, j < k → x.testBit j = false := by
  induction n with
  | zero => intro x hx h; omega
  | succ n ih =>
    intro x hx h
    rw [Nat.pow_succ] at hx
    rcases Nat.mod_two_eq_zero_or_one x with he | ho
    · obtain ⟨k, h1, h2, h3, h4⟩ := ih (x / 2) (by omega) (by omega)
      refine ⟨k + 1, by omega, ?_, ?_, ?_⟩
      · rw [and_halves, show (2 ^ (n + 1) - x) / 2 = 2 ^ n - x / 2 from by rw [Nat.pow_succ]; omega, h2, if_neg (by omega), Nat.pow_succ]; omega
      · rw [Nat.testBit_succ]; exact h3
      · intro j hj
        cases j with
        | zero => simp [Nat.testBit_zero, he]
        | succ j => rw [Nat.testBit_succ]; exact h4 j (by omega)
    · refine ⟨0, by omega, ?_, by simp [Nat.testBit_zero, ho], fun j hj => by omega⟩
      rw [and_halves, show (2 ^ (n + 1) - x) / 2 = 2 ^ n - (x / 2 + 1) from by rw [Nat.pow_succ]; omega, and_compl n (x / 2) (by omega), if_pos ⟨ho, by rw [Nat.pow_succ]; omega⟩]

/-- The table of Go's library, and where it is looked into. -/
def table : List Int := [0, 1, 56, 2, 57, 49, 28, 3, 61, 58, 42, 50, 38, 29, 17, 4, 62, 47, 59, 36, 45, 43, 51, 22, 53, 39, 33, 30, 24, 18, 12, 5, 63, 55, 48, 27, 60, 41, 37, 16, 46, 35, 44, 21, 52, 32, 23, 11, 54, 26, 40, 15, 34, 20, 31, 10, 25, 14, 19, 9, 13, 8, 7, 6]
theorem table_at (k : Nat) (hk : k < 64) : table.getD (2 ^ k * 285870213051353865 % 18446744073709551616 / 288230376151711744) 0 = (k : Int) := by
  have : ∀ k : Fin 64, table.getD (2 ^ k.val * 285870213051353865 % 18446744073709551616 / 288230376151711744) 0 = (k.val : Int) := by decide +kernel
  exact this ⟨k, hk⟩

/-- The least number of a set; 64: there is none. -/
def least (s : Nat) : Nat := ((List.range 64).find? fun i => s.testBit i).getD 64
theorem least_zero : least 0 = 64 := by decide
theorem least_at (s k : Nat) (hk : k < 64) (h : s.testBit k = true) (hn : ∀ j, j < k → s.testBit j = false) : least s = k := by
  unfold least
  rw [(List.find?_range_eq_some (p := fun i => s.testBit i)).2 ⟨h, by simp [hk], fun j hj => by simp [hn j hj]⟩]
  rfl
theorem least_spec (s : Nat) (hs : s < 2 ^ 64) (h : s ≠ 0) : least s < 64 ∧ s.testBit (least s) = true ∧ ∀ j, j < least s → s.testBit j = false := by
  obtain ⟨k, h1, _, h3, h4⟩ := low 64 s hs h
  rw [least_at s k h1 h3 h4]
  exact ⟨h1, h3, h4⟩
theorem least_low (s : Nat) (hs : s < 2 ^ 64) (h : s ≠ 0) : s &&& (18446744073709551616 - s) = 2 ^ least s := by
  obtain ⟨k, h1, h2, h3, h4⟩ := low 64 s hs h
  rw [least_at s k h1 h3 h4]
  exact h2

/-- All numbers of a set, rising. -/
def list (s : Nat) : List Nat := (List.range 64).filter fun i => s.testBit i
def count (s : Nat) : Nat := (list s).length
theorem list_zero : list 0 = [] := by decide
theorem filter_range_least (n : Nat) (p : Nat → Bool) (k : Nat) (hk : k < n) (h : p k = true) (hn : ∀ j, j < k → p j = false) :
    (List.range n).filter p = k :: (List.range n).filter fun i => p i && !decide (k = i) := by
  have h1 : List.range n = List.range k ++ k :: List.range' (k + 1) (n - k - 1) := by
    rw [List.range_eq_range', List.range_eq_range', ← List.range'_succ, show n - k - 1 + 1 = n - k from by omega]
    have := @List.range'_append 0 k (n - k) 1
    simp only [Nat.one_mul, Nat.zero_add] at this
    rw [this, show k + (n - k) = n from by omega]
  rw [h1, List.filter_append, List.filter_append, List.filter_cons, List.filter_cons, if_pos h, if_neg (by simp)]
  have h2 : (List.range k).filter p = [] := List.filter_eq_nil_iff.2 fun j hj => by rw [hn j (List.mem_range.1 hj)]; decide
  have h3 : (List.range k).filter (fun i => p i && !decide (k = i)) = [] := List.filter_eq_nil_iff.2 fun j hj => by rw [hn j (List.mem_range.1 hj)]; simp
  rw [h2, h3]
  simp only [List.nil_append, List.cons.injEq, true_and]
  refine List.filter_congr fun j hj => ?_
  have : k + 1 ≤ j := (List.mem_range'_1.1 hj).1
  rw [decide_eq_false (by omega)]; simp
theorem list_step (s : Nat) (hs : s < 2 ^ 64) (h : s ≠ 0) : list s = least s :: list (del s (least s)) := by
  obtain ⟨h1, h2, h3⟩ := least_spec s hs h
  unfold list
  rw [filter_range_least 64 (fun i => s.testBit i) (least s) h1 h2 h3]
  congr 1
  refine List.filter_congr fun i _ => ?_
  rw [testBit_del]
theorem list_len (s : Nat) : (list s).length ≤ 64 := by
  have := List.length_filter_le (fun i => s.testBit i) (List.range 64)
  unfold list
  simpa using this
theorem list_nil (s : Nat) (hs : s < 2 ^ 64) : list s = [] ↔ s = 0 := by
  constructor
  · intro h
    by_cases h0 : s = 0
    · exact h0
    · rw [list_step s hs h0] at h; cases h
  · rintro rfl; exact list_zero
theorem mem_list (s i : Nat) : i ∈ list s ↔ i < 64 ∧ s.testBit i = true := by
  unfold list; simp [List.mem_filter]
end Bits
end Go.Proofs.Ytobfanodjdkkoaa
end

section
/- Plain law: how many bits of a number are set, as Go's library reckons it. No condition. -/
set_option linter.unusedVariables false
set_option linter.unusedSimpArgs false
namespace Go.Proofs.Ytobfanodjdkkoaa
namespace Bits

/-- A number out of its digits to the base 256, the least one first. -/
def ofD : List Nat → Nat
  | [] => 0
  | d :: l => d + 256 * ofD l
def shr (c c' : Nat) : List Nat → List Nat
  | [] => []
  | d :: l => (d / c + c' * (l.headD 0 % c)) :: shr c c' l
theorem ofD_mod (c c' : Nat) (hc : c * c' = 256) (l : List Nat) : ofD l % c = l.headD 0 % c := by
  cases l with
  | nil => rfl
  | cons d l =>
    show (d + 256 * ofD l) % c = d % c
    rw [← hc, Nat.mul_assoc, Nat.add_mul_mod_self_left]
theorem ofD_shr (c c' : Nat) (hc : c * c' = 256) (l : List Nat) : ofD l / c = ofD (shr c c' l) := by
  have hpos : 0 < c := by rcases Nat.eq_zero_or_pos c with rfl | h; · simp at hc
                          · exact h
  induction l with
  | nil => simp [ofD, shr]
  | cons d l ih =>
    show (d + 256 * ofD l) / c = d / c + c' * (l.headD 0 % c) + 256 * ofD (shr c c' l)
    rw [← ih, ← ofD_mod c c' hc l, ← hc, Nat.mul_assoc, Nat.add_mul_div_left _ _ hpos, Nat.add_assoc]
    congr 1
    rw [Nat.mul_assoc, Nat.mul_left_comm c c', ← Nat.mul_add, Nat.mod_add_div]
theorem shr_len (c c' : Nat) (l : List Nat) : (shr c c' l).length = l.length := by
  induction l with
  | nil => rfl
  | cons d l ih => simp [shr, ih]
theorem and_pair (a b m M : Nat) (ha : a < 256) (hm : m < 256) : (a + 256 * b) &&& (m + 256 * M) = (a &&& m) + 256 * (b &&& M) := by
  have h1 := @Nat.and_div_two_pow (a + 256 * b) (m + 256 * M) 8
  have h2 := @Nat.and_mod_two_pow (a + 256 * b) (m + 256 * M) 8
  rw [show (2 : Nat) ^ 8 = 256 from rfl] at h1 h2
  rw [show (a + 256 * b) / 256 = b from by omega, show (m + 256 * M) / 256 = M from by omega] at h1
  rw [show (a + 256 * b) % 256 = a from by omega, show (m + 256 * M) % 256 = m from by omega] at h2
  omega
theorem ofD_and (m : Nat) (hm : m < 256) (l : List Nat) (hl : ∀ d ∈ l, d < 256) : ofD l &&& ofD (List.replicate l.length m) = ofD (l.map (· &&& m)) := by
  induction l with
  | nil => simp [ofD]
  | cons d l ih =>
    show (d + 256 * ofD l) &&& (m + 256 * ofD (List.replicate l.length m)) = (d &&& m) + 256 * ofD (l.map (· &&& m))
    rw [and_pair _ _ _ _ (hl d (by simp)) hm, ih (fun x hx => hl x (by simp [hx]))]
theorem ofD_add (f g : Nat → Nat) (l : List Nat) : ofD (l.map f) + ofD (l.map g) = ofD (l.map fun d => f d + g d) := by
  induction l with
  | nil => rfl
  | cons d l ih =>
    show f d + 256 * ofD (l.map f) + (g d + 256 * ofD (l.map g)) = f d + g d + 256 * ofD (l.map fun d => f d + g d)
    rw [← ih]; omega
theorem shr_map_and (c c' m : Nat) (l : List Nat) (hl : ∀ d ∈ l, d < 256) (h : ∀ d, d < 256 → ∀ b, b < c → (d / c + c' * b) &&& m = d / c &&& m) (hc : 0 < c) :
    (shr c c' l).map (· &&& m) = l.map fun d => d / c &&& m := by
  induction l with
  | nil => rfl
  | cons d l ih =>
    show ((d / c + c' * (l.headD 0 % c)) &&& m) :: (shr c c' l).map (· &&& m) = (d / c &&& m) :: l.map fun d => d / c &&& m
    rw [h d (hl d (by simp)) _ (Nat.mod_lt _ hc), ih (fun x hx => hl x (by simp [hx]))]
theorem shr_small (c c' : Nat) (hc : c * c' = 256) (hpos : 0 < c) (l : List Nat) (hl : ∀ d ∈ l, d < 256) : ∀ d ∈ shr c c' l, d < 256 := by
  induction l with
  | nil => intro d hd; simp [shr] at hd
  | cons x l ih =>
    intro d hd
    simp only [shr, List.mem_cons] at hd
    rcases hd with rfl | hd
    · have h1 := hl x (by simp)
      have h2 : l.headD 0 % c < c := Nat.mod_lt _ hpos
      have h3 : x / c < c' := by rw [Nat.div_lt_iff_lt_mul hpos, Nat.mul_comm, hc]; exact h1
      have h4 : c' * (l.headD 0 % c) ≤ c' * (c - 1) := Nat.mul_le_mul_left _ (by omega)
      have h5 : c' * (c - 1) + c' = 256 := by
        rw [← Nat.mul_succ, Nat.succ_eq_add_one, show c - 1 + 1 = c from by omega, Nat.mul_comm]; exact hc
      omega
    · exact ih (fun x hx => hl x (by simp [hx])) d hd

def f1 (d : Nat) : Nat := (d / 2 &&& 85) + (d &&& 85)
def f2 (d : Nat) : Nat := (d / 4 &&& 51) + (d &&& 51)
def pop8 (d : Nat) : Nat := ((List.range 8).filter fun i => d.testBit i).length
theorem f1_lt (d : Nat) (h : d < 256) : f1 d < 256 := (by decide +kernel : ∀ d : Fin 256, f1 d.val < 256) ⟨d, h⟩
theorem f2_small (d : Nat) (h : d < 256) : f2 (f1 d) / 16 ≤ 4 ∧ f2 (f1 d) % 16 ≤ 4 := (by decide +kernel : ∀ d : Fin 256, f2 (f1 d.val) / 16 ≤ 4 ∧ f2 (f1 d.val) % 16 ≤ 4) ⟨d, h⟩
theorem f3_pop (d : Nat) (h : d < 256) : f2 (f1 d) / 16 + f2 (f1 d) % 16 = pop8 d := (by decide +kernel : ∀ d : Fin 256, f2 (f1 d.val) / 16 + f2 (f1 d.val) % 16 = pop8 d.val) ⟨d, h⟩
theorem pop8_le (d : Nat) : pop8 d ≤ 8 := by
  have := List.length_filter_le (fun i => d.testBit i) (List.range 8)
  unfold pop8; simpa using this
theorem step_one (l : List Nat) (h8 : l.length = 8) (hl : ∀ d ∈ l, d < 256) : (ofD l / 2 &&& 6148914691236517205) + (ofD l &&& 6148914691236517205) = ofD (l.map f1) := by
  rw [ofD_shr 2 128 rfl]
  have hm : (6148914691236517205 : Nat) = ofD (List.replicate 8 85) := by decide
  have h1 := ofD_and 85 (by decide) (shr 2 128 l) (shr_small 2 128 rfl (by decide) l hl)
  rw [shr_len, h8] at h1
  have h2 := ofD_and 85 (by decide) l hl
  rw [h8] at h2
  rw [hm, h1, h2, shr_map_and 2 128 85 l hl (fun d hd b hb => (by decide +kernel : ∀ d : Fin 256, ∀ b : Fin 2, (d.val / 2 + 128 * b.val) &&& 85 = d.val / 2 &&& 85) ⟨d, hd⟩ ⟨b, hb⟩) (by decide), ofD_add]
  rfl
theorem step_two (l : List Nat) (h8 : l.length = 8) (hl : ∀ d ∈ l, d < 256) : (ofD l / 4 &&& 3689348814741910323) + (ofD l &&& 3689348814741910323) = ofD (l.map f2) := by
  rw [ofD_shr 4 64 rfl]
  have hm : (3689348814741910323 : Nat) = ofD (List.replicate 8 51) := by decide
  have h1 := ofD_and 51 (by decide) (shr 4 64 l) (shr_small 4 64 rfl (by decide) l hl)
  rw [shr_len, h8] at h1
  have h2 := ofD_and 51 (by decide) l hl
  rw [h8] at h2
  rw [hm, h1, h2, shr_map_and 4 64 51 l hl (fun d hd b hb => (by decide +kernel : ∀ d : Fin 256, ∀ b : Fin 4, (d.val / 4 + 64 * b.val) &&& 51 = d.val / 4 &&& 51) ⟨d, hd⟩ ⟨b, hb⟩) (by decide), ofD_add]
  rfl
/-- The third step: digits whose halves are at most 4. -/
def third : List Nat → List Nat
  | [] => []
  | d :: l => (d / 16 + 16 * (l.headD 0 % 16) + d) :: third l
theorem third_sum (l : List Nat) : ofD (shr 16 16 l) + ofD l = ofD (third l) := by
  induction l with
  | nil => rfl
  | cons d l ih =>
    show d / 16 + 16 * (l.headD 0 % 16) + 256 * ofD (shr 16 16 l) + (d + 256 * ofD l) = d / 16 + 16 * (l.headD 0 % 16) + d + 256 * ofD (third l)
    rw [← ih]; omega
theorem third_small (l : List Nat) (hl : ∀ d ∈ l, d / 16 ≤ 4 ∧ d % 16 ≤ 4) : (∀ d ∈ third l, d < 256) ∧ (third l).map (· &&& 15) = l.map fun d => d / 16 + d % 16 := by
  induction l with
  | nil => exact ⟨fun d hd => by simp [third] at hd, rfl⟩
  | cons x l ih =>
    obtain ⟨i1, i2⟩ := ih (fun d hd => hl d (by simp [hd]))
    have hx := hl x (by simp)
    have hh : l.headD 0 % 16 ≤ 4 := by
      cases l with
      | nil => simp
      | cons y l => exact (hl y (by simp)).2
    refine ⟨fun d hd => ?_, ?_⟩
    · simp only [third, List.mem_cons] at hd
      rcases hd with rfl | hd
      · omega
      · exact i1 d hd
    · show ((x / 16 + 16 * (l.headD 0 % 16) + x) &&& 15) :: (third l).map (· &&& 15) = (x / 16 + x % 16) :: l.map fun d => d / 16 + d % 16
      rw [i2]
      congr 1
      have := Nat.and_two_pow_sub_one_eq_mod (x / 16 + 16 * (l.headD 0 % 16) + x) 4
      rw [show 2 ^ 4 - 1 = 15 from rfl, show 2 ^ 4 = 16 from rfl] at this
      rw [this]; omega
theorem third_len (l : List Nat) : (third l).length = l.length := by
  induction l with
  | nil => rfl
  | cons d l ih => simp [third, ih]
theorem step_three (l : List Nat) (h8 : l.length = 8) (hl : ∀ d ∈ l, d / 16 ≤ 4 ∧ d % 16 ≤ 4) : (ofD l / 16 + ofD l) &&& 1085102592571150095 = ofD (l.map fun d => d / 16 + d % 16) := by
  obtain ⟨i1, i2⟩ := third_small l hl
  rw [ofD_shr 16 16 rfl, third_sum]
  have hm : (1085102592571150095 : Nat) = ofD (List.replicate 8 15) := by decide
  have h1 := ofD_and 15 (by decide) (third l) i1
  rw [third_len, h8] at h1
  rw [hm, h1, i2]

def digits (x : Nat) : List Nat := [x % 256, x / 256 % 256, x / 65536 % 256, x / 16777216 % 256, x / 4294967296 % 256, x / 1099511627776 % 256, x / 281474976710656 % 256, x / 72057594037927936 % 256]
theorem ofD_digits (x : Nat) (hx : x < 18446744073709551616) : ofD (digits x) = x := by
  simp only [digits, ofD]; omega
theorem digits_lt (x : Nat) : ∀ d ∈ digits x, d < 256 := by
  intro d hd
  simp only [digits, List.mem_cons, List.not_mem_nil, or_false] at hd
  rcases hd with rfl | rfl | rfl | rfl | rfl | rfl | rfl | rfl <;> omega

def s1 (x : Nat) : Nat := (x / 2 &&& 6148914691236517205) + (x &&& 6148914691236517205)
def s2 (x : Nat) : Nat := (x / 4 &&& 3689348814741910323) + (x &&& 3689348814741910323)
def s3 (x : Nat) : Nat := (x / 16 + x) &&& 1085102592571150095
theorem s3_pop (x : Nat) (hx : x < 18446744073709551616) : s3 (s2 (s1 x)) = ofD ((digits x).map pop8) := by
  have hl := digits_lt x
  have h1 : s1 x = ofD ((digits x).map f1) := by
    have := step_one (digits x) rfl hl
    rw [ofD_digits x hx] at this
    exact this
  have h2 : s2 (s1 x) = ofD ((digits x).map fun d => f2 (f1 d)) := by
    rw [h1]
    have := step_two ((digits x).map f1) rfl (fun d hd => by
      obtain ⟨y, hy, rfl⟩ := List.mem_map.1 hd
      exact f1_lt y (hl y hy))
    rw [List.map_map] at this
    exact this
  rw [h2]
  have := step_three ((digits x).map fun d => f2 (f1 d)) rfl (fun d hd => by
      obtain ⟨y, hy, rfl⟩ := List.mem_map.1 hd
      exact f2_small y (hl y hy))
  rw [List.map_map] at this
  refine this.trans ?_
  congr 1
  exact List.map_congr_left fun d hd => f3_pop d (hl d hd)
def sums (x : Nat) : Nat := pop8 (x % 256) + pop8 (x / 256 % 256) + pop8 (x / 65536 % 256) + pop8 (x / 16777216 % 256) + pop8 (x / 4294967296 % 256) + pop8 (x / 1099511627776 % 256) + pop8 (x / 281474976710656 % 256) + pop8 (x / 72057594037927936 % 256)
def s4 (x : Nat) : Nat := x + x / 256
def s5 (x : Nat) : Nat := x + x / 65536
def s6 (x : Nat) : Nat := x + x / 4294967296
theorem dv (L H B : Nat) (h : L < B) : (L + B * H) / B = H := by
  rw [Nat.add_mul_div_left _ _ (by omega), Nat.div_eq_of_lt h, Nat.zero_add]
theorem s6_sum (x : Nat) (hx : x < 18446744073709551616) : s6 (s5 (s4 (s3 (s2 (s1 x))))) % 128 = sums x := by
  rw [s3_pop x hx]
  simp only [digits, List.map, ofD, sums]
  have a0 := pop8_le (x % 256)
  have a1 := pop8_le (x / 256 % 256)
  have a2 := pop8_le (x / 65536 % 256)
  have a3 := pop8_le (x / 16777216 % 256)
  have a4 := pop8_le (x / 4294967296 % 256)
  have a5 := pop8_le (x / 1099511627776 % 256)
  have a6 := pop8_le (x / 281474976710656 % 256)
  have a7 := pop8_le (x / 72057594037927936 % 256)
  generalize pop8 (x % 256) = b0 at *
  generalize pop8 (x / 256 % 256) = b1 at *
  generalize pop8 (x / 65536 % 256) = b2 at *
  generalize pop8 (x / 16777216 % 256) = b3 at *
  generalize pop8 (x / 4294967296 % 256) = b4 at *
  generalize pop8 (x / 1099511627776 % 256) = b5 at *
  generalize pop8 (x / 281474976710656 % 256) = b6 at *
  generalize pop8 (x / 72057594037927936 % 256) = b7 at *
  have e4 : s4 (b0 + 256 * (b1 + 256 * (b2 + 256 * (b3 + 256 * (b4 + 256 * (b5 + 256 * (b6 + 256 * (b7 + 256 * 0)))))))) = (b0 + b1) + 256 * ((b1 + b2) + 256 * ((b2 + b3) + 256 * ((b3 + b4) + 256 * ((b4 + b5) + 256 * ((b5 + b6) + 256 * ((b6 + b7) + 256 * b7)))))) := by
    unfold s4
    rw [dv b0 _ 256 (by omega)]
    omega
  rw [e4]
  have k0 : b0 + b1 ≤ 16 := by omega
  have k1 : b1 + b2 ≤ 16 := by omega
  have k2 : b2 + b3 ≤ 16 := by omega
  have k3 : b3 + b4 ≤ 16 := by omega
  have k4 : b4 + b5 ≤ 16 := by omega
  have k5 : b5 + b6 ≤ 16 := by omega
  have k6 : b6 + b7 ≤ 16 := by omega
  have e5 : s5 ((b0 + b1) + 256 * ((b1 + b2) + 256 * ((b2 + b3) + 256 * ((b3 + b4) + 256 * ((b4 + b5) + 256 * ((b5 + b6) + 256 * ((b6 + b7) + 256 * b7))))))) = (b0 + b1 + (b2 + b3)) + 256 * ((b1 + b2 + (b3 + b4)) + 256 * ((b2 + b3 + (b4 + b5)) + 256 * ((b3 + b4 + (b5 + b6)) + 256 * ((b4 + b5 + (b6 + b7)) + 256 * ((b5 + b6 + b7) + 256 * ((b6 + b7) + 256 * b7)))))) := by
    unfold s5
    rw [show ((b0 + b1) + 256 * ((b1 + b2) + 256 * ((b2 + b3) + 256 * ((b3 + b4) + 256 * ((b4 + b5) + 256 * ((b5 + b6) + 256 * ((b6 + b7) + 256 * b7))))))) / 65536 = ((b2 + b3) + 256 * ((b3 + b4) + 256 * ((b4 + b5) + 256 * ((b5 + b6) + 256 * ((b6 + b7) + 256 * b7))))) from by
      rw [show ((b0 + b1) + 256 * ((b1 + b2) + 256 * ((b2 + b3) + 256 * ((b3 + b4) + 256 * ((b4 + b5) + 256 * ((b5 + b6) + 256 * ((b6 + b7) + 256 * b7))))))) = ((b0 + b1) + 256 * (b1 + b2)) + 65536 * ((b2 + b3) + 256 * ((b3 + b4) + 256 * ((b4 + b5) + 256 * ((b5 + b6) + 256 * ((b6 + b7) + 256 * b7))))) from by omega]
      exact dv _ _ 65536 (by omega)]
    omega
  rw [e5]
  unfold s6
  rw [show ((b0 + b1 + (b2 + b3)) + 256 * ((b1 + b2 + (b3 + b4)) + 256 * ((b2 + b3 + (b4 + b5)) + 256 * ((b3 + b4 + (b5 + b6)) + 256 * ((b4 + b5 + (b6 + b7)) + 256 * ((b5 + b6 + b7) + 256 * ((b6 + b7) + 256 * b7))))))) / 4294967296 = (b4 + b5 + (b6 + b7)) + 256 * ((b5 + b6 + b7) + 256 * ((b6 + b7) + 256 * b7)) from by
    rw [show ((b0 + b1 + (b2 + b3)) + 256 * ((b1 + b2 + (b3 + b4)) + 256 * ((b2 + b3 + (b4 + b5)) + 256 * ((b3 + b4 + (b5 + b6)) + 256 * ((b4 + b5 + (b6 + b7)) + 256 * ((b5 + b6 + b7) + 256 * ((b6 + b7) + 256 * b7))))))) = ((b0 + b1 + (b2 + b3)) + 256 * ((b1 + b2 + (b3 + b4)) + 256 * ((b2 + b3 + (b4 + b5)) + 256 * (b3 + b4 + (b5 + b6))))) + 4294967296 * ((b4 + b5 + (b6 + b7)) + 256 * ((b5 + b6 + b7) + 256 * ((b6 + b7) + 256 * b7))) from by omega]
    exact dv _ _ 4294967296 (by omega)]
  rw [show (b0 + b1 + (b2 + b3)) + 256 * ((b1 + b2 + (b3 + b4)) + 256 * ((b2 + b3 + (b4 + b5)) + 256 * ((b3 + b4 + (b5 + b6)) + 256 * ((b4 + b5 + (b6 + b7)) + 256 * ((b5 + b6 + b7) + 256 * ((b6 + b7) + 256 * b7)))))) + ((b4 + b5 + (b6 + b7)) + 256 * ((b5 + b6 + b7) + 256 * ((b6 + b7) + 256 * b7)))
    = (b0 + b1 + b2 + b3 + b4 + b5 + b6 + b7) + 128 * (2 * ((b1 + b2 + (b3 + b4)) + 256 * ((b2 + b3 + (b4 + b5)) + 256 * ((b3 + b4 + (b5 + b6)) + 256 * ((b4 + b5 + (b6 + b7)) + 256 * ((b5 + b6 + b7) + 256 * ((b6 + b7) + 256 * b7))))) + (b5 + b6 + b7) + 256 * ((b6 + b7) + 256 * b7))) from by omega]
  rw [Nat.add_mul_mod_self_left]
  exact Nat.mod_eq_of_lt (by omega)

def cnt (n x : Nat) : Nat := ((List.range n).filter fun i => x.testBit i).length
theorem cnt_add (n x : Nat) : cnt (8 + n) x = cnt 8 x + cnt n (x / 256) := by
  unfold cnt
  rw [List.range_add, List.filter_append, List.length_append, List.filter_map, List.length_map]
  congr 2
  refine List.filter_congr fun i _ => ?_
  show x.testBit (8 + i) = (x / 256).testBit i
  rw [show (256 : Nat) = 2 ^ 8 from rfl, Nat.testBit_div_two_pow, Nat.add_comm]
theorem cnt8 (x : Nat) : cnt 8 x = pop8 (x % 256) := by
  unfold cnt pop8
  congr 1
  refine List.filter_congr fun i hi => ?_
  rw [show (256 : Nat) = 2 ^ 8 from rfl, Nat.testBit_mod_two_pow, decide_eq_true (List.mem_range.1 hi), Bool.true_and]
theorem count_sums (x : Nat) : count x = sums x := by
  have h : count x = cnt (8 + (8 + (8 + (8 + (8 + (8 + (8 + (8 + 0)))))))) x := rfl
  rw [h]
  simp only [cnt_add, cnt8, sums]
  simp only [Nat.div_div_eq_div_mul, cnt, Nat.reduceMul]
  simp only [List.range_zero, List.filter_nil, List.length_nil]
  omega
end Bits
end Go.Proofs.Ytobfanodjdkkoaa
end

section
/- Two functions of Go's library on bits come to plain numbers: how many bits are set, and the least one. Of the second: where the library's table reads as its text lays it. -/
set_option linter.unusedVariables false
set_option linter.unusedSimpArgs false
namespace Go.Proofs.Ytobfanodjdkkoaa
open Go.RowKit

theorem and_lit64 (x : Nat) (m : Int) (k : Nat) (hm : m = (k : Int)) (hx : x < 18446744073709551616) (hk : k < 18446744073709551616) : bits .and .u64 (x : Int) m = ((x &&& k : Nat) : Int) := by
  subst hm; exact Bits.and_u64 x k hx hk
theorem half_le (a b : Nat) : a &&& b ≤ b := Nat.and_le_right
theorem wrap64_127 (y : Nat) (hy : y < 9223372036854775808) : bits .and .i64 (wrap64 (y : Int)) 127 = ((y % 128 : Nat) : Int) := by
  have h1 : wrap64 (y : Int) = y := by unfold wrap64; omega
  rw [h1]
  have := bits_mask .i64 63 (by decide) (fun n h0 h1 => by rw [IntKind.wrap_i64]; omega) 7 (by decide) (y : Int) (by omega) (by omega)
  rw [show ((2 : Int) ^ 7 - 1) = 127 from by decide] at this
  rw [this]; omega
theorem wrap_u64_nat (m : Nat) : IntKind.u64.wrap (m : Int) = ((m % 18446744073709551616 : Nat) : Int) := by
  simp [IntKind.wrap, IntKind.bits, IntKind.signed]

theorem ones_count (x : Nat) (w : World) (hx : x < 18446744073709551616) : Calls Try.prog 59 #[.int .u64 x] w fun e w' => e = .returned (.int .i64 (Bits.count x)) ∧ w = w' := by
  have hfin := Bits.s6_sum x hx
  rw [← Bits.count_sums x] at hfin
  have b1 : Bits.s1 x ≤ 6148914691236517205 + 6148914691236517205 := Nat.add_le_add (half_le _ _) (half_le _ _)
  have e1 : IntKind.u64.wrap (bits .and .u64 ((x : Int) / 2) 6148914691236517205 + bits .and .u64 (x : Int) 6148914691236517205) = (Bits.s1 x : Nat) := by
    rw [show (x : Int) / 2 = ((x / 2 : Nat) : Int) from by omega, and_lit64 (x / 2) 6148914691236517205 6148914691236517205 (by omega) (by omega) (by decide), and_lit64 x 6148914691236517205 6148914691236517205 (by omega) hx (by decide)]
    have : Bits.s1 x = (x / 2 &&& 6148914691236517205) + (x &&& 6148914691236517205) := rfl
    rw [Bits.wrap_u64 _ (by omega) (by omega)]; omega
  generalize Bits.s1 x = y1 at *
  have b2 : Bits.s2 y1 ≤ 3689348814741910323 + 3689348814741910323 := Nat.add_le_add (half_le _ _) (half_le _ _)
  have e2 : IntKind.u64.wrap (bits .and .u64 ((y1 : Int) / 4) 3689348814741910323 + bits .and .u64 (y1 : Int) 3689348814741910323) = (Bits.s2 y1 : Nat) := by
    rw [show (y1 : Int) / 4 = ((y1 / 4 : Nat) : Int) from by omega, and_lit64 (y1 / 4) 3689348814741910323 3689348814741910323 (by omega) (by omega) (by decide), and_lit64 y1 3689348814741910323 3689348814741910323 (by omega) (by omega) (by decide)]
    have : Bits.s2 y1 = (y1 / 4 &&& 3689348814741910323) + (y1 &&& 3689348814741910323) := rfl
    rw [Bits.wrap_u64 _ (by omega) (by omega)]; omega
  generalize Bits.s2 y1 = y2 at *
  have b3 : Bits.s3 y2 ≤ 1085102592571150095 := half_le _ _
  have e3 : bits .and .u64 (IntKind.u64.wrap ((y2 : Int) / 16 + (y2 : Int))) 1085102592571150095 = (Bits.s3 y2 : Nat) := by
    rw [show (y2 : Int) / 16 + (y2 : Int) = ((y2 / 16 + y2 : Nat) : Int) from by omega, Bits.wrap_u64 _ (by omega) (by omega), and_lit64 (y2 / 16 + y2) 1085102592571150095 1085102592571150095 (by omega) (by omega) (by decide)]
    rfl
  generalize Bits.s3 y2 = y3 at *
  have b4 : Bits.s4 y3 = y3 + y3 / 256 := rfl
  have e4 : IntKind.u64.wrap ((y3 : Int) + (y3 : Int) / 256) = (Bits.s4 y3 : Nat) := by rw [Bits.wrap_u64 _ (by omega) (by omega)]; omega
  generalize Bits.s4 y3 = y4 at *
  have b5 : Bits.s5 y4 = y4 + y4 / 65536 := rfl
  have e5 : IntKind.u64.wrap ((y4 : Int) + (y4 : Int) / 65536) = (Bits.s5 y4 : Nat) := by rw [Bits.wrap_u64 _ (by omega) (by omega)]; omega
  generalize Bits.s5 y4 = y5 at *
  have b6 : Bits.s6 y5 = y5 + y5 / 4294967296 := rfl
  have e6 : IntKind.u64.wrap ((y5 : Int) + (y5 : Int) / 4294967296) = (Bits.s6 y5 : Nat) := by rw [Bits.wrap_u64 _ (by omega) (by omega)]; omega
  generalize Bits.s6 y5 = y6 at *
  have e7 := wrap64_127 y6 (by omega)
  rw [hfin] at e7
  clear b1 b2 b3 b4 b5 b6 hx hfin
  go_enter Try.func59, Try.ntmps59
  go_wp2
  go_ret
  exact ⟨rfl, rfl⟩

end Go.Proofs.Ytobfanodjdkkoaa
end

section
/- The functions of package set come to plain sets. Where the library's table reads as its text lays it, for those that ask for the least number. -/
set_option linter.unusedVariables false
set_option linter.unusedSimpArgs false
namespace Go.Proofs.Ytobfanodjdkkoaa
open Go.RowKit

/-- Can a number be in a set? -/
def inS (n : Int) : Bool := decide (0 ≤ n ∧ n < 64)
theorem in_set (n : Int) (w : World) : Calls Try.prog 58 #[.int .i64 n] w fun e w' => e = .returned (.bool (inS n)) ∧ w = w' := by
  by_cases h0 : 0 ≤ n
  · by_cases h1 : n < 64
    · have h := Lib.hid (show inS n = true from decide_eq_true ⟨h0, h1⟩)
      go_enter Try.func58, Try.ntmps58
      go_wp2
      go_ret
      exact ⟨ret_bool h.out.symm, rfl⟩
    · have h := Lib.hid (show inS n = false from decide_eq_false (by omega))
      go_enter Try.func58, Try.ntmps58
      go_wp2
      go_ret
      exact ⟨ret_bool h.out.symm, rfl⟩
  · have h := Lib.hid (show inS n = false from decide_eq_false (by omega))
    go_enter Try.func58, Try.ntmps58
    go_wp2
    go_ret
    exact ⟨ret_bool h.out.symm, rfl⟩

theorem wrap_pow (k : Nat) (hk : k < 64) : IntKind.u64.wrap ((2 : Int) ^ k) = ((2 ^ k : Nat) : Int) := by
  have hp : 2 ^ k < 18446744073709551616 := Nat.pow_lt_pow_right (m := k) (n := 64) (by decide) hk
  have e : ((2 : Int) ^ k) = ((2 ^ k : Nat) : Int) := by rw [Int.natCast_pow]; rfl
  rw [e, wrap_u64_nat, Nat.mod_eq_of_lt hp]
def hasS (s : Nat) (n : Int) : Bool := inS n && s.testBit n.toNat
def withS (s : Nat) (n : Int) : Nat := if inS n then Bits.put s n.toNat else s
def withoutS (s : Nat) (n : Int) : Nat := if inS n then Bits.del s n.toNat else s
theorem withS_lt (s : Nat) (n : Int) (hs : s < 18446744073709551616) : withS s n < 18446744073709551616 := by
  unfold withS inS
  split
  · rename_i h
    have := of_decide_eq_true h
    exact Bits.put_lt s n.toNat hs (by omega)
  · exact hs
theorem withoutS_lt (s : Nat) (n : Int) (hs : s < 18446744073709551616) : withoutS s n < 18446744073709551616 := by
  unfold withoutS
  split
  · exact Bits.del_lt s n.toNat hs
  · exact hs

theorem has_set (s : Nat) (n : Int) (w : World) (hs : s < 18446744073709551616) : Calls Try.prog 31 #[.int .u64 s, .int .i64 n] w fun e w' => e = .returned (.bool (hasS s n)) ∧ w = w' := by
  cases hi : inS n
  · have h := Lib.hid (show hasS s n = false from by unfold hasS; rw [hi]; rfl)
    go_enter Try.func31, Try.ntmps31
    go_wp2_with fail
    refine (in_set _ _).mono ?_
    rintro e w1 ⟨rfl, rfl⟩
    go_wp2_with fail
    go_ret
    exact ⟨ret_bool h.out.symm, rfl⟩
  · have hb := of_decide_eq_true hi
    obtain ⟨k, rfl⟩ := Int.eq_ofNat_of_zero_le hb.1
    have hk : k < 64 := by omega
    have h := Lib.hid (show hasS s k = s.testBit k from by unfold hasS; rw [hi]; rfl)
    have he : (bits .and .u64 ((s : Int) / 2 ^ k) 1 == 1) = s.testBit k := by
      rw [show (s : Int) / 2 ^ k = ((s / 2 ^ k : Nat) : Int) from by rw [Int.natCast_ediv]; rfl]
      have hle : s / 2 ^ k ≤ s := Nat.div_le_self _ _
      rw [and_lit64 (s / 2 ^ k) 1 1 (by omega) (by omega) (by decide), Nat.and_one_is_mod]
      rw [Nat.testBit_eq_decide_div_mod_eq]
      rw [Bool.eq_iff_iff, beq_iff_eq, decide_eq_true_iff]
      omega
    have hlt : (k : Int) < 64 := by omega
    clear hb
    go_enter Try.func31, Try.ntmps31
    go_wp2_with fail
    refine (in_set _ _).mono ?_
    rintro e w1 ⟨rfl, rfl⟩
    go_wp2_with fail
    go_ret
    exact ⟨ret_bool (by rw [h.out]), rfl⟩

theorem with_set (s : Nat) (n : Int) (w : World) (hs : s < 18446744073709551616) : Calls Try.prog 53 #[.int .u64 s, .int .i64 n] w fun e w' => e = .returned (.int .u64 (withS s n)) ∧ w = w' := by
  cases hi : inS n
  · have h := Lib.hid (show withS s n = s from by unfold withS; rw [hi]; rfl)
    go_enter Try.func53, Try.ntmps53
    go_wp2_with fail
    refine (in_set _ _).mono ?_
    rintro e w1 ⟨rfl, rfl⟩
    go_wp2_with fail
    go_ret
    exact ⟨ret_int (by rw [h.out]), rfl⟩
  · have hb := of_decide_eq_true hi
    obtain ⟨k, rfl⟩ := Int.eq_ofNat_of_zero_le hb.1
    have hk : k < 64 := by omega
    have h := Lib.hid (show withS s k = Bits.put s k from by unfold withS; rw [hi]; rfl)
    have hp : 2 ^ k < 18446744073709551616 := Nat.pow_lt_pow_right (m := k) (n := 64) (by decide) hk
    have he : bits .or .u64 (s : Int) (IntKind.u64.wrap (2 ^ k)) = ((Bits.put s k : Nat) : Int) := by
      rw [wrap_pow k hk, Bits.or_u64 s (2 ^ k) hs hp]; rfl
    have HE := Lib.hid he
    clear hb he hp
    have hlt : (k : Int) < 64 := by omega
    go_enter Try.func53, Try.ntmps53
    go_wp2_with fail
    refine (in_set _ _).mono ?_
    rintro e w1 ⟨rfl, rfl⟩
    go_wp2_with fail
    go_ret
    exact ⟨ret_int (by rw [h.out, HE.out]), rfl⟩

theorem without_set (s : Nat) (n : Int) (w : World) (hs : s < 18446744073709551616) : Calls Try.prog 60 #[.int .u64 s, .int .i64 n] w fun e w' => e = .returned (.int .u64 (withoutS s n)) ∧ w = w' := by
  cases hi : inS n
  · have h := Lib.hid (show withoutS s n = s from by unfold withoutS; rw [hi]; rfl)
    go_enter Try.func60, Try.ntmps60
    go_wp2_with fail
    refine (in_set _ _).mono ?_
    rintro e w1 ⟨rfl, rfl⟩
    go_wp2_with fail
    go_ret
    exact ⟨ret_int (by rw [h.out]), rfl⟩
  · have hb := of_decide_eq_true hi
    obtain ⟨k, rfl⟩ := Int.eq_ofNat_of_zero_le hb.1
    have hk : k < 64 := by omega
    have h := Lib.hid (show withoutS s k = Bits.del s k from by unfold withoutS; rw [hi]; rfl)
    have hp : 2 ^ k < 18446744073709551616 := Nat.pow_lt_pow_right (m := k) (n := 64) (by decide) hk
    have he : bits .andNot .u64 (s : Int) (IntKind.u64.wrap (2 ^ k)) = ((Bits.del s k : Nat) : Int) := by
      rw [wrap_pow k hk, Bits.andNot_u64 s (2 ^ k) hs hp]; rfl
    have HE := Lib.hid he
    clear hb he hp
    have hlt : (k : Int) < 64 := by omega
    go_enter Try.func60, Try.ntmps60
    go_wp2_with fail
    refine (in_set _ _).mono ?_
    rintro e w1 ⟨rfl, rfl⟩
    go_wp2_with fail
    go_ret
    exact ⟨ret_int (by rw [h.out, HE.out]), rfl⟩

theorem count_set (s : Nat) (w : World) (hs : s < 18446744073709551616) : Calls Try.prog 32 #[.int .u64 s] w fun e w' => e = .returned (.int .i64 (Bits.count s)) ∧ w = w' := by
  go_enter Try.func32, Try.ntmps32
  go_wp2_with fail
  refine (ones_count _ _ hs).mono ?_
  rintro e w1 ⟨rfl, rfl⟩
  go_wp2_with fail
  go_ret
  exact ⟨rfl, rfl⟩

def withinS (s t : Nat) : Bool := s ^^^ (s &&& t) == 0
theorem within_set (s t : Nat) (w : World) (hs : s < 18446744073709551616) (ht : t < 18446744073709551616) : Calls Try.prog 63 #[.int .u64 s, .int .u64 t] w fun e w' => e = .returned (.bool (withinS s t)) ∧ w = w' := by
  have he : (bits .andNot .u64 (s : Int) (t : Int) == 0) = withinS s t := by
    rw [Bits.andNot_u64 s t hs ht]
    unfold withinS
    rw [Bool.eq_iff_iff, beq_iff_eq, beq_iff_eq]
    omega
  go_enter Try.func63, Try.ntmps63
  go_wp2_with fail
  go_ret
  exact ⟨rfl, rfl⟩

/-- All numbers below one. -/
def belowS (n : Int) : Nat := if 64 ≤ n then 18446744073709551615 else if n < 1 then 0 else 2 ^ n.toNat - 1
theorem belowS_lt (n : Int) : belowS n < 18446744073709551616 := by
  unfold belowS
  split
  · decide
  · split
    · decide
    · have : 2 ^ n.toNat < 18446744073709551616 := Nat.pow_lt_pow_right (m := n.toNat) (n := 64) (by decide) (by omega)
      omega

def ofTo (l : List Int) (k : Nat) : Nat := (l.take k).foldl withS 0
def ofS (l : List Int) : Nat := l.foldl withS 0
theorem ofTo_lt (l : List Int) (k : Nat) : ofTo l k < 18446744073709551616 := by
  unfold ofTo
  generalize l.take k = m
  have : ∀ (m : List Int) (s : Nat), s < 18446744073709551616 → m.foldl withS s < 18446744073709551616 := by
    intro m
    induction m with
    | nil => intro s hs; exact hs
    | cons a m ih => intro s hs; exact ih _ (withS_lt s a hs)
  exact this m 0 (by decide)
theorem ofTo_succ (l : List Int) (k : Nat) (h : k < l.length) : ofTo l (k + 1) = withS (ofTo l k) (l.getD k 0) := by
  unfold ofTo
  rw [List.take_add_one, List.foldl_append, List.getElem?_eq_getElem h, List.getD_eq_getElem?_getD, List.getElem?_eq_getElem h]
  rfl
theorem ofTo_all (l : List Int) : ofTo l l.length = ofS l := by unfold ofTo; rw [List.take_length]; rfl
theorem ofS_lt (l : List Int) : ofS l < 18446744073709551616 := ofTo_all l ▸ ofTo_lt l _

/-- All numbers of a set, as ints. -/
def listS (s : Nat) : List Int := (Bits.list s).map fun i : Nat => (i : Int)
theorem listS_len (s : Nat) : (listS s).length ≤ 64 := by unfold listS; rw [List.length_map]; exact Bits.list_len s
theorem listS_step (s : Nat) (hs : s < 18446744073709551616) (h : s ≠ 0) : listS s = (Bits.least s : Int) :: listS (withoutS s (Bits.least s : Int)) := by
  have h1 := (Bits.least_spec s hs h).1
  unfold listS
  rw [Bits.list_step s hs h, List.map_cons]
  congr 2
  unfold withoutS inS
  rw [if_pos (decide_eq_true (by omega))]
  rfl
end Go.Proofs.Ytobfanodjdkkoaa
end

section
/- Relations of numbers below 64: what the program's functions come to. No condition but each theorem's own. -/
set_option linter.unusedVariables false
set_option linter.unusedSimpArgs false
namespace Go.Proofs.Ytobfanodjdkkoaa
open Go.RowKit

/-- A relation's cells. -/
def relArr (r : Nat → Nat) : Array Value := arrOf 64 fun i => .int .u64 (r i)
def RelOK (r : Nat → Nat) : Prop := ∀ i, r i < 18446744073709551616
theorem relArr_ext {r s : Nat → Nat} (h : ∀ k, k < 64 → r k = s k) : relArr r = relArr s := arrOf_ext fun k hk => by rw [h k hk]
theorem zero_rel (w : World) : (zeroValue 51).run Try.prog w = .ok (.agg (relArr fun _ => 0)) w := by kernel_rfl
attribute [local go_sem ↓] zero_rel
theorem relArr_size (r : Nat → Nat) : (relArr r).size = 64 := arrOf_size _ _
theorem relArr_cells (r : Nat → Nat) : (relArr r).all (·.oneCell') = true := arrOf_cells _ _ fun _ _ => rfl
theorem Blk.relAt {w : World} {g : Nat} {r : Nat → Nat} {T : TypeId} (h : Blk w g (relArr r) T) (i : Nat) (hi : i < 64) : w.cell? ⟨g, i, none⟩ = some (.int .u64 (r i)) := h.cellOf i hi
/-- One row of a relation set anew. -/
def rowSet (r : Nat → Nat) (i s : Nat) : Nat → Nat := fun k => if k = i then s else r k
theorem rowSet_ok {r : Nat → Nat} (h : RelOK r) (i s : Nat) (hs : s < 18446744073709551616) : RelOK (rowSet r i s) := fun k => by
  unfold rowSet
  split
  · exact hs
  · exact h k
theorem Blk.relSet {w : World} {g : Nat} {r : Nat → Nat} {T : TypeId} (h : Blk w g (relArr r) T) (i s : Nat) : Blk (w.setCell ⟨g, i, none⟩ (.int .u64 s)) g (relArr (rowSet r i s)) T := by
  have := h.setOf i (.int .u64 s)
  refine this.congr fun k _ => ?_
  unfold rowSet
  split <;> rfl

def hasR (r : Nat → Nat) (a b : Int) : Bool := inS a && hasS (r a.toNat) b
set_option maxRecDepth 100000 in
theorem has_rel (r : Nat → Nat) (ok : RelOK r) (a b : Int) (w : World) : Calls Try.prog 25 #[.agg (relArr r), .int .i64 a, .int .i64 b] w fun e w' => e = .returned (.bool (hasR r a b)) ∧ Ch nob w w' := by
  obtain ⟨hb, hc, hs⟩ := one_new w (relArr r) 51
  by_cases h0 : 0 ≤ a
  · by_cases h1 : a < 64
    · obtain ⟨n, rfl⟩ := Int.eq_ofNat_of_zero_le h0
      have hx := hb.relAt n (by omega)
      have hlt := ok n
      have HE := Lib.hid (show hasR r (n : Int) b = hasS (r n) b from by unfold hasR inS; rw [decide_eq_true (by omega)]; rfl)
      clear ok
      go_enter Try.func25, Try.ntmps25
      go_wp2_with fail
      generalize w.alloc _ = w1 at hb hc hs hx ⊢
      refine (has_set (r n) b _ hlt).mono ?_
      rintro e w2 ⟨rfl, rfl⟩
      go_wp2_with fail
      go_ret
      exact ⟨ret_bool HE.out.symm, hc⟩
    · have HE := Lib.hid (show hasR r a b = false from by unfold hasR inS; rw [decide_eq_false (by omega)]; rfl)
      go_enter Try.func25, Try.ntmps25
      go_wp2_with fail
      go_ret
      exact ⟨ret_bool HE.out.symm, hc⟩
  · have HE := Lib.hid (show hasR r a b = false from by unfold hasR inS; rw [decide_eq_false (by omega)]; rfl)
    go_enter Try.func25, Try.ntmps25
    go_wp2_with fail
    go_ret
    exact ⟨ret_bool HE.out.symm, hc⟩

def unionR (r t : Nat → Nat) (n : Nat) : Nat → Nat := fun i => if i < n then r i ||| t i else r i
theorem or_ok {a b : Nat} (ha : a < 18446744073709551616) (hb : b < 18446744073709551616) : a ||| b < 18446744073709551616 := Nat.or_lt_two_pow (n := 64) ha hb
theorem unionR_zero (r t : Nat → Nat) : unionR r t 0 = r := rfl
theorem unionR_succ (r t : Nat → Nat) (n : Nat) : rowSet (unionR r t n) n (r n ||| t n) = unionR r t (n + 1) := by
  funext k
  unfold rowSet unionR
  by_cases h : k = n
  · subst h; simp
  · rw [if_neg h]
    by_cases h2 : k < n
    · rw [if_pos h2, if_pos (by omega)]
    · rw [if_neg h2, if_neg (by omega)]
/-- Warshall's steps. -/
def innerC (r : Nat → Nat) (k : Nat) : Nat → (Nat → Nat)
  | 0 => r
  | i + 1 => if hasS (innerC r k i i) (k : Int) then rowSet (innerC r k i) i (innerC r k i i ||| innerC r k i k) else innerC r k i
def closeR (r : Nat → Nat) : Nat → (Nat → Nat)
  | 0 => r
  | k + 1 => innerC (closeR r k) k 64
theorem innerC_ok {r : Nat → Nat} (h : RelOK r) (k : Nat) : ∀ i, RelOK (innerC r k i)
  | 0 => h
  | i + 1 => by
    unfold innerC
    split
    · exact rowSet_ok (innerC_ok h k i) _ _ (or_ok (innerC_ok h k i _) (innerC_ok h k i _))
    · exact innerC_ok h k i
theorem closeR_ok {r : Nat → Nat} (h : RelOK r) : ∀ k, RelOK (closeR r k)
  | 0 => h
  | k + 1 => innerC_ok (closeR_ok h k) k 64
set_option maxRecDepth 100000 in
theorem closure_rel (r : Nat → Nat) (ok : RelOK r) (w : World) : Calls Try.prog 62 #[.agg (relArr r)] w fun e w' => e = .returned (.agg (relArr (closeR r 64))) ∧ Ch nob w w' := by
  go_enter Try.func62, Try.ntmps62
  go_wp2_with fail
  obtain ⟨hr1, hz1, hc1, hs1⟩ := two_new w (relArr r) (relArr fun _ => 0) 51 51
  generalize (w.alloc _).alloc _ = w1 at hr1 hz1 hc1 ⊢
  clear hs1
  go_loopw [5] (fun q wr => ∃ k : Nat, q = .int .i64 k ∧ k ≤ 64 ∧ Blk wr w.heap.size (relArr (closeR r k)) 51 ∧ Blk wr (w.heap.size + 1) (relArr fun _ => 0) 51 ∧ Ch nob w wr) (fun q _ => 64 - (intOf q).toNat)
  case atStart => exact ⟨0, rfl, by omega, hr1, hz1, hc1⟩
  case round =>
    clear hr1 hz1 hc1
    obtain ⟨k, rfl, hk, hr, hz, hc⟩ := hrel
    by_cases hlt : k < 64
    · have hd : decide ((k : Int) < 64) = true := decide_eq_true (by omega)
      have okk := closeR_ok ok k
      have HN := Lib.hid (show closeR r (k + 1) = innerC (closeR r k) k 64 from rfl)
      obtain ⟨c, hce⟩ : ∃ c, closeR r k = c := ⟨_, rfl⟩
      rw [hce] at hr okk HN
      clear hce
      go_wp2_with fail
      go_loopw [8] (fun q wr => ∃ i : Nat, q = .int .i64 i ∧ i ≤ 64 ∧ Blk wr w.heap.size (relArr (innerC c k i)) 51 ∧ Blk wr (w.heap.size + 1) (relArr fun _ => 0) 51 ∧ Ch nob w wr) (fun q _ => 64 - (intOf q).toNat)
      case atStart => exact ⟨0, rfl, by omega, hr, hz, hc⟩
      case round =>
        clear hr hz hc
        obtain ⟨i, rfl, hi, hr, hz, hc⟩ := hrel
        by_cases hlti : i < 64
        · have hd2 : decide ((i : Int) < 64) = true := decide_eq_true (by omega)
          have oki := innerC_ok okk k i
          have HS := Lib.hid (show innerC c k (i + 1) = if hasS (innerC c k i i) (k : Int) then rowSet (innerC c k i) i (innerC c k i i ||| innerC c k i k) else innerC c k i from rfl)
          obtain ⟨s, hse⟩ : ∃ s, innerC c k i = s := ⟨_, rfl⟩
          rw [hse] at hr oki HS
          clear hse
          have hx := hr.relAt i hlti
          have hy := hr.relAt k hlt
          have hf := hr.free i
          have oi := oki i
          have oj := oki k
          have hor := Bits.or_u64 (s i) (s k) oi oj
          go_wp2_with fail
          refine (has_set (s i) (k : Int) _ oi).mono ?_
          rintro e w2 ⟨rfl, rfl⟩
          cases hh : hasS (s i) (k : Int)
          · have hr2 : Blk wr w.heap.size (relArr (innerC c k (i + 1))) 51 := by rw [HS.out, hh]; exact hr
            clear hr hh
            go_wp2_with fail
            go_roundw
            case rel => exact ⟨i + 1, by go_num, by omega, hr2, hz, hc⟩
            case measure => simp [intOf]; omega
          · have hr2 := hr.relSet i (s i ||| s k)
            have HE := Lib.hid (show innerC c k (i + 1) = rowSet s i (s i ||| s k) from by rw [HS.out, hh]; rfl)
            rw [← HE.out] at hr2
            have hch : Ch (· = w.heap.size) wr (wr.setCell ⟨w.heap.size, i, none⟩ (.int .u64 (s i ||| s k : Nat))) := (Ch.refl _ _).setCell _ _ (fun _ => rfl)
            have hz2 := hz.ch hch (by omega)
            have hc2 := hc.setCell ⟨w.heap.size, i, none⟩ (.int .u64 (s i ||| s k : Nat)) (fun h => by simp at h)
            clear hr hz hc hch hh
            go_wp2_with fail
            go_region_with fail
            all_goals
              go_wp2_with fail
              go_roundw
              case rel => exact ⟨i + 1, by go_num, by omega, hr2, hz2, hc2.drew⟩
              case measure => simp [intOf]; omega
        · obtain rfl : i = 64 := by omega
          rw [← HN.out] at hr
          go_wp2_with fail
          go_roundw
          case rel => exact ⟨k + 1, by go_num, by omega, hr, hz, hc⟩
          case measure => simp [intOf]; omega
    · obtain rfl : k = 64 := by omega
      have hsz : (relArr (closeR r 64)).size = 64 := relArr_size _
      have hce := relArr_cells (closeR r 64)
      obtain ⟨C, hC⟩ : ∃ C, relArr (closeR r 64) = C := ⟨_, rfl⟩
      have HC := Lib.hid hC
      rw [hC] at hsz hce hr
      obtain ⟨Z, hZ⟩ : ∃ Z, (relArr fun _ => 0) = Z := ⟨_, rfl⟩
      have hzz : Z.size = 64 := by rw [← hZ]; exact relArr_size _
      rw [hZ] at hz
      clear hC hZ
      go_wp2_with (first | (refine wpList_load_row rfl 51 (.tmp 1) rfl w.heap.size rfl 51 C (0, 0) _ hr rfl rfl (by rw [hsz]; kernel_rfl) ?_) | (refine wpList_store_row rfl 51 (.tmp 2) (.tmp 26) rfl (w.heap.size + 1) C rfl rfl 51 _ hz (by rw [hsz]; kernel_rfl) (by rw [hzz, hsz]) hce ?_))
      have hz3 := hz.row C
      have hc3 := hc.setRow (w.heap.size + 1) C (fun h => by omega)
      exact bodyPost_ret (v := .agg C) (results_cell_row rfl _ _ (w.heap.size + 1) 51 C (0, 0) _ rfl hz3 rfl rfl (by rw [hsz]; kernel_rfl)) rfl ⟨by rw [HC.out], hc3⟩

/-- Does one never come back? -/
def acyR (r : Nat → Nat) : Bool := (List.range 64).all fun i => !hasS (closeR r 64 i) (i : Int)
theorem index_rel (r : Nat → Nat) (i : Nat) (hi : i < 64) (w : World) : (Instr.index 51 (.agg (relArr r)) (.int .i64 i)).run Try.prog w = .ok (.int .u64 (r i)) w :=
  run_index_one (e := 49) (len := 64) (by kernel_rfl) w (by kernel_rfl) (by kernel_rfl) _ _ _ _ (by omega) (by omega) (arrOf_get _ _ _ hi)
set_option maxRecDepth 100000 in
theorem acyclic_rel (r : Nat → Nat) (ok : RelOK r) (w : World) : Calls Try.prog 37 #[.agg (relArr r)] w fun e w' => e = .returned (.bool (acyR r)) ∧ Ch nob w w' := by
  obtain ⟨hr1, hc1, hs1⟩ := one_new w (relArr r) 51
  go_enter Try.func37, Try.ntmps37
  go_wp2_with (refine wpList_load_row rfl 51 (.tmp 1) rfl w.heap.size rfl 51 (relArr r) (0, 0) _ hr1 rfl rfl (by rw [relArr_size]; kernel_rfl) ?_)
  generalize w.alloc _ = w1 at hr1 hc1 ⊢
  refine (closure_rel r ok _).mono ?_
  rintro e w2 ⟨rfl, hc2⟩
  have hc3 := hc1.seq hc2
  have okc := closeR_ok ok 64
  have HA := Lib.hid (show acyR r = (List.range 64).all fun i => !hasS (closeR r 64 i) (i : Int) from rfl)
  generalize closeR r 64 = c at okc HA
  clear hr1 hc1 hc2 hs1
  go_wp2_with fail
  go_loop [7] (fun q => ∃ i : Nat, q = .int .i64 i ∧ i ≤ 64 ∧ Hid (∀ j, j < i → hasS (c j) (j : Int) = false)) (fun q => 64 - (intOf q).toNat)
  case atStart => exact ⟨0, rfl, by omega, Lib.hid (fun j hj => by omega)⟩
  case round =>
    obtain ⟨i, rfl, hi, hn⟩ := hrel
    by_cases hlt : i < 64
    · have hix := index_rel c i hlt
      have oi := okc i
      go_wp2_with fail
      refine (has_set (c i) (i : Int) _ oi).mono ?_
      rintro e w3 ⟨rfl, rfl⟩
      cases hh : hasS (c i) (i : Int)
      · have hn2 : Hid (∀ j, j < i + 1 → hasS (c j) (j : Int) = false) := Lib.hid (fun j hj => by
          by_cases h : j = i
          · rw [h]; exact hh
          · exact hn.out j (by omega))
        clear hh
        go_wp2_with fail
        go_round
        case rel => exact ⟨i + 1, by go_num, by omega, hn2⟩
        case measure => simp [intOf]; omega
      · have HF := Lib.hid (show acyR r = false from by
          rw [HA.out, List.all_eq_false]
          exact ⟨i, by simpa using hlt, by simp [hh]⟩)
        clear hh
        go_wp2_with fail
        go_ret
        exact ⟨ret_bool HF.out.symm, hc3⟩
    · have HF := Lib.hid (show acyR r = true from by
        rw [HA.out, List.all_eq_true]
        intro j hj
        rw [List.mem_range] at hj
        rw [hn.out j (by omega)]; rfl)
      go_wp2_with fail
      go_ret
      exact ⟨ret_bool HF.out.symm, hc3⟩
end Go.Proofs.Ytobfanodjdkkoaa
end

section
/- Relations of numbers below 64: more of what the program's functions come to. No condition but each theorem's own. -/
set_option linter.unusedVariables false
set_option linter.unusedSimpArgs false
namespace Go.Proofs.Ytobfanodjdkkoaa
open Go.RowKit
attribute [local go_sem ↓] zero_rel

/-- Is each row within the other one's? -/
def withinR (r t : Nat → Nat) : Bool := (List.range 64).all fun i => withinS (r i) (t i)
set_option maxRecDepth 100000 in
theorem within_rel (r t : Nat → Nat) (okr : RelOK r) (okt : RelOK t) (w : World) : Calls Try.prog 38 #[.agg (relArr r), .agg (relArr t)] w fun e w' => e = .returned (.bool (withinR r t)) ∧ Ch nob w w' := by
  obtain ⟨hr1, ht1, hc1, hs1⟩ := two_new w (relArr r) (relArr t) 51 51
  go_enter Try.func38, Try.ntmps38
  go_wp2_with (refine wpList_load_row rfl 51 (.tmp 2) rfl w.heap.size rfl 51 (relArr r) (0, 0) _ hr1 rfl rfl (by rw [relArr_size]; kernel_rfl) ?_)
  generalize (w.alloc _).alloc _ = w1 at hr1 ht1 hc1 hs1 ⊢
  have HA := Lib.hid (show withinR r t = (List.range 64).all fun i => withinS (r i) (t i) from rfl)
  go_loop [8] (fun q => ∃ i : Nat, q = .int .i64 i ∧ i ≤ 64 ∧ Hid (∀ j, j < i → withinS (r j) (t j) = true)) (fun q => 64 - (intOf q).toNat)
  case atStart => exact ⟨0, rfl, by omega, Lib.hid (fun j hj => by omega)⟩
  case round =>
    obtain ⟨i, rfl, hi, hn⟩ := hrel
    by_cases hlt : i < 64
    · have hix := index_rel r i hlt
      have hx := ht1.relAt i hlt
      have oi := okr i
      have oj := okt i
      go_wp2_with fail
      refine (within_set (r i) (t i) _ oi oj).mono ?_
      rintro e w3 ⟨rfl, rfl⟩
      cases hh : withinS (r i) (t i)
      · have HF := Lib.hid (show withinR r t = false from by
          rw [HA.out, List.all_eq_false]
          exact ⟨i, by simpa using hlt, by simp [hh]⟩)
        clear hh
        go_wp2_with fail
        go_ret
        exact ⟨ret_bool HF.out.symm, hc1⟩
      · have hn2 : Hid (∀ j, j < i + 1 → withinS (r j) (t j) = true) := Lib.hid (fun j hj => by
          by_cases h : j = i
          · rw [h]; exact hh
          · exact hn.out j (by omega))
        clear hh
        go_wp2_with fail
        go_round
        case rel => exact ⟨i + 1, by go_num, by omega, hn2⟩
        case measure => simp [intOf]; omega
    · have HF := Lib.hid (show withinR r t = true from by
        rw [HA.out, List.all_eq_true]
        intro j hj
        rw [List.mem_range] at hj
        exact hn.out j (by omega))
      go_wp2_with fail
      go_ret
      exact ⟨ret_bool HF.out.symm, hc1⟩

/-- 'Add'. -/
def addR (r : Nat → Nat) (a b : Int) : Nat → Nat := if inS a && inS b then rowSet r a.toNat (withS (r a.toNat) b) else r
theorem addR_ok {r : Nat → Nat} (h : RelOK r) (a b : Int) : RelOK (addR r a b) := by
  unfold addR
  split
  · exact rowSet_ok h _ _ (withS_lt _ _ (h _))
  · exact h
set_option maxRecDepth 100000 in
theorem add_rel (r : Nat → Nat) (ok : RelOK r) (g : Nat) (a b : Int) (w : World) (hb : Blk w g (relArr r) 51) :
    Calls Try.prog 73 #[.pointer (some ⟨g, 0, none⟩), .int .i64 a, .int .i64 b] w fun e w' => e = .returned (.bool (inS a && inS b)) ∧ Blk w' g (relArr (addR r a b)) 51 ∧ Ch (· = g) w w' := by
  by_cases h : (0 ≤ a ∧ a < 64) ∧ (0 ≤ b ∧ b < 64)
  · obtain ⟨⟨h0, h1⟩, h2, h3⟩ := h
    obtain ⟨n, rfl⟩ := Int.eq_ofNat_of_zero_le h0
    have hx := hb.relAt n (by omega)
    have hf := hb.free n
    have hlt := ok n
    have d1 : decide ((n : Int) < 0) = false := decide_eq_false (by omega)
    have d2 : decide ((64 : Int) ≤ (n : Int)) = false := decide_eq_false (by omega)
    have d3 : decide (b < 0) = false := decide_eq_false (by omega)
    have d4 : decide (64 ≤ b) = false := decide_eq_false (by omega)
    have hin : (inS (n : Int) && inS b) = true := by unfold inS; rw [decide_eq_true (by omega), decide_eq_true (by omega)]; rfl
    have HB := hb.relSet n (withS (r n) b)
    have HE := Lib.hid (show addR r (n : Int) b = rowSet r n (withS (r n) b) from by unfold addR; rw [hin]; rfl)
    rw [← HE.out] at HB
    have hch : Ch (· = g) w (w.setCell ⟨g, n, none⟩ (.int .u64 (withS (r n) b : Nat))) := (Ch.refl _ _).setCell _ _ (fun _ => rfl)
    have HI := Lib.hid hin
    clear hb hin
    go_enter Try.func73, Try.ntmps73
    go_wp2_with fail
    go_region_with (go_at_call 53; refine (with_set (r n) b _ hlt).mono ?_; rintro e w2 ⟨rfl, rfl⟩)
    all_goals
      go_wp2_with fail
      go_ret
      exact ⟨ret_bool HI.out.symm, HB.drew, hch.drew⟩
  · have hin : (inS a && inS b) = false := by
      unfold inS
      rw [Bool.and_eq_false_iff, decide_eq_false_iff_not, decide_eq_false_iff_not]
      omega
    have HI := Lib.hid hin
    have hb2 : Blk w g (relArr (addR r a b)) 51 := by unfold addR; rw [hin]; exact hb
    clear hb hin ok
    have hways : a < 0 ∨ (0 ≤ a ∧ 64 ≤ a) ∨ (0 ≤ a ∧ a < 64 ∧ b < 0) ∨ (0 ≤ a ∧ a < 64 ∧ 0 ≤ b ∧ 64 ≤ b) := by omega
    clear h
    rcases hways with h | ⟨h1, h2⟩ | ⟨h1, h2, h3⟩ | ⟨h1, h2, h3, h4⟩
    · have d1 : decide (a < 0) = true := decide_eq_true (by omega)
      go_enter Try.func73, Try.ntmps73
      go_wp2_with fail
      go_ret
      exact ⟨ret_bool HI.out.symm, hb2, Ch.refl _ _⟩
    · have d1 : decide (a < 0) = false := decide_eq_false (by omega)
      have d2 : decide ((64 : Int) ≤ a) = true := decide_eq_true (by omega)
      go_enter Try.func73, Try.ntmps73
      go_wp2_with fail
      go_ret
      exact ⟨ret_bool HI.out.symm, hb2, Ch.refl _ _⟩
    · have d1 : decide (a < 0) = false := decide_eq_false (by omega)
      have d2 : decide ((64 : Int) ≤ a) = false := decide_eq_false (by omega)
      have d3 : decide (b < 0) = true := decide_eq_true (by omega)
      go_enter Try.func73, Try.ntmps73
      go_wp2_with fail
      go_ret
      exact ⟨ret_bool HI.out.symm, hb2, Ch.refl _ _⟩
    · have d1 : decide (a < 0) = false := decide_eq_false (by omega)
      have d2 : decide ((64 : Int) ≤ a) = false := decide_eq_false (by omega)
      have d3 : decide (b < 0) = false := decide_eq_false (by omega)
      have d4 : decide (64 ≤ b) = true := decide_eq_true (by omega)
      go_enter Try.func73, Try.ntmps73
      go_wp2_with fail
      go_ret
      exact ⟨ret_bool HI.out.symm, hb2, Ch.refl _ _⟩
end Go.Proofs.Ytobfanodjdkkoaa
end

section
/- Of each two transactions whether one comes ahead of the other (order.pairs). No condition but each theorem's own. -/
set_option linter.unusedVariables false
set_option linter.unusedSimpArgs false
namespace Go.Proofs.Ytobfanodjdkkoaa
open Go.RowKit Go.Maps

def sesB (hs : List Txr) (i k : Nat) : Bool := decide (i < k) && (hs.getD i txrZero).ses == (hs.getD k txrZero).ses
def timeB (hs : List Txr) (i k : Nat) : Bool := decide ((hs.getD i txrZero).com < (hs.getD k txrZero).beg)
set_option maxHeartbeats 2000000 in
theorem ahead_session (w : World) (v : Value) (hs : List Txr) (g i k : Nat) (hv : Txns w v hs) (hg : w.cell? ⟨g, 0, none⟩ = some v) (hi : i < hs.length) (hk : k < hs.length) : Calls Try.prog 51 #[.int .i64 i, .int .i64 k, .pointer (some ⟨g, 0, none⟩)] w fun e w' => e = .returned (.bool (sesB hs i k)) ∧ Ch nob w w' := by
  obtain ⟨A, cp, rfl⟩ := hv.shape
  have HV := Lib.hid hv
  have HI := Lib.hid hi
  have HK := Lib.hid hk
  obtain ⟨n, hn2⟩ : ∃ n, hs.length = n := ⟨_, rfl⟩
  have HN := Lib.hid hn2
  rw [hn2] at hi hk HV hg
  obtain ⟨ad, u1, rfl, hx0, _⟩ := HV.out.at.2.2 i HI.out
  obtain ⟨ad2, u2, hA, hy0, _⟩ := HV.out.at.2.2 k HK.out
  obtain rfl := Option.some.inj hA
  have HB := Lib.hid (show sesB hs i k = (decide (i < k) && (hs.getD i txrZero).ses == (hs.getD k txrZero).ses) from rfl)
  obtain ⟨a, ha⟩ : ∃ a, (hs.getD i txrZero).ses = a := ⟨_, rfl⟩
  obtain ⟨b, hb⟩ : ∃ b, (hs.getD k txrZero).ses = b := ⟨_, rfl⟩
  rw [ha] at hx0 HB
  rw [hb] at hy0 HB
  have X0 := fun u : Ext _ => Ext.cell hg u
  have X1 := fun u : Ext _ => Ext.cell hx0 u
  have X2 := fun u : Ext _ => Ext.cell hy0 u
  clear hv hn2 hA ha hb
  by_cases hlt : i < k
  · have hd : decide ((i : Int) < (k : Int)) = true := decide_eq_true (by omega)
    have HB2 := Lib.hid (show sesB hs i k = (a == b) from by rw [HB.out, decide_eq_true hlt, Bool.true_and])
    go_enter Try.func51, Try.ntmps51
    go_wp2_with fail
    refine wp_region_ch (w0 := _) (by kernel_rfl) (by kernel_rfl) (Ch.refl _ _) ?_
    repeat go_big_quiet_step (fail)
    refine wpQuiet_nil ?_
    rintro wq ⟨⟨_, hcq⟩, rfl⟩
    go_wp2_with fail
    go_ret
    exact ⟨ret_bool HB2.out.symm, hcq⟩
  · have hd : decide ((i : Int) < (k : Int)) = false := decide_eq_false (by omega)
    have HB2 := Lib.hid (show sesB hs i k = false from by rw [HB.out, decide_eq_false hlt, Bool.false_and])
    go_enter Try.func51, Try.ntmps51
    go_wp2_with fail
    refine wp_region_ch (w0 := _) (by kernel_rfl) (by kernel_rfl) (Ch.refl _ _) ?_
    repeat go_big_quiet_step (fail)
    refine wpQuiet_nil ?_
    rintro wq ⟨⟨_, hcq⟩, rfl⟩
    go_wp2_with fail
    go_ret
    exact ⟨ret_bool HB2.out.symm, hcq⟩
set_option maxHeartbeats 2000000 in
theorem ahead_time (w : World) (v : Value) (hs : List Txr) (g i k : Nat) (hv : Txns w v hs) (hg : w.cell? ⟨g, 0, none⟩ = some v) (hi : i < hs.length) (hk : k < hs.length) : Calls Try.prog 52 #[.int .i64 i, .int .i64 k, .pointer (some ⟨g, 0, none⟩)] w fun e w' => e = .returned (.bool (timeB hs i k)) ∧ Ch nob w w' := by
  obtain ⟨A, cp, rfl⟩ := hv.shape
  have HV := Lib.hid hv
  have HI := Lib.hid hi
  have HK := Lib.hid hk
  obtain ⟨n, hn2⟩ : ∃ n, hs.length = n := ⟨_, rfl⟩
  have HN := Lib.hid hn2
  rw [hn2] at hi hk HV hg
  obtain ⟨ad, u1, rfl, _, _, hx2, _⟩ := HV.out.at.2.2 i HI.out
  obtain ⟨ad2, u2, hA, _, hy1, _⟩ := HV.out.at.2.2 k HK.out
  obtain rfl := Option.some.inj hA
  have HB := Lib.hid (show timeB hs i k = decide ((hs.getD i txrZero).com < (hs.getD k txrZero).beg) from rfl)
  obtain ⟨a, ha⟩ : ∃ a, (hs.getD i txrZero).com = a := ⟨_, rfl⟩
  obtain ⟨b, hb⟩ : ∃ b, (hs.getD k txrZero).beg = b := ⟨_, rfl⟩
  rw [ha] at hx2 HB
  rw [hb] at hy1 HB
  have X0 := fun u : Ext _ => Ext.cell hg u
  have X1 := fun u : Ext _ => Ext.cell hx2 u
  have X2 := fun u : Ext _ => Ext.cell hy1 u
  clear hv hn2 hA ha hb
  go_enter Try.func52, Try.ntmps52
  go_wp2_with fail
  refine wp_region_ch (w0 := _) (by kernel_rfl) (by kernel_rfl) (Ch.refl _ _) ?_
  repeat go_big_quiet_step (fail)
  refine wpQuiet_nil ?_
  rintro wq ⟨⟨_, hcq⟩, rfl⟩
  go_wp2_with fail
  go_ret
  exact ⟨ret_bool HB.out.symm, hcq⟩

/-! ### All pairs -/
/-- Row i of the first k columns. -/
def rowB (q : Nat → Nat → Bool) (i : Nat) : Nat → Nat
  | 0 => 0
  | k + 1 => if i != k && q i k then Bits.put (rowB q i k) k else rowB q i k
theorem rowB_lt (q : Nat → Nat → Bool) (i : Nat) : ∀ k, k ≤ 64 → rowB q i k < 18446744073709551616
  | 0, _ => (by decide : 0 < 18446744073709551616)
  | k + 1, h => by
    unfold rowB
    split
    · exact Bits.put_lt _ _ (rowB_lt q i k (by omega)) (by omega)
    · exact rowB_lt q i k (by omega)
theorem rowB_bit (q : Nat → Nat → Bool) (i j : Nat) : ∀ k, (rowB q i k).testBit j = (decide (j < k) && (i != j && q i j))
  | 0 => by simp [rowB]
  | k + 1 => by
    unfold rowB
    split
    · rename_i h
      rw [Bits.testBit_put, rowB_bit q i j k]
      by_cases e : k = j
      · subst e; simp [h]
      · have : decide (j < k + 1) = decide (j < k) := by rw [decide_eq_decide]; omega
        rw [this]; simp [e]
    · rename_i h
      rw [rowB_bit q i j k]
      by_cases e : j = k
      · subst e
        have h2 : (i != j && q i j) = false := by simpa using h
        rw [h2]; simp
      · have : decide (j < k + 1) = decide (j < k) := by rw [decide_eq_decide]; omega
        rw [this]
def pairsTo (q : Nat → Nat → Bool) (n i k : Nat) : Nat → Nat := fun a => if a < i then rowB q a n else if a = i then rowB q i k else 0
def pairsR (q : Nat → Nat → Bool) (n : Nat) : Nat → Nat := fun a => if a < n then rowB q a n else 0
theorem pairsTo_ok (q : Nat → Nat → Bool) (n i k : Nat) (hn : n ≤ 64) (hk : k ≤ 64) : RelOK (pairsTo q n i k) := fun a => by
  unfold pairsTo
  split
  · exact rowB_lt q a n hn
  · split
    · exact rowB_lt q i k hk
    · decide
theorem pairsR_ok (q : Nat → Nat → Bool) (n : Nat) (hn : n ≤ 64) : RelOK (pairsR q n) := fun a => by
  unfold pairsR
  split
  · exact rowB_lt q a n hn
  · decide
theorem pairsTo_add (q : Nat → Nat → Bool) (n i k : Nat) (hi : i < 64) (hk : k < 64) (h : (i != k && q i k) = true) : addR (pairsTo q n i k) (i : Int) (k : Int) = pairsTo q n i (k + 1) := by
  unfold addR inS
  rw [decide_eq_true (by omega), decide_eq_true (by omega)]
  funext a
  show rowSet _ _ _ a = _
  unfold rowSet pairsTo withS inS
  rw [decide_eq_true (by omega)]
  simp only [Int.toNat_natCast, if_true]
  by_cases e : a = i
  · subst e
    simp only [Nat.lt_irrefl, if_false, if_true]
    show Bits.put (rowB q a k) k = rowB q a (k + 1)
    rw [show rowB q a (k + 1) = if a != k && q a k then Bits.put (rowB q a k) k else rowB q a k from rfl, if_pos h]
  · simp [e]
theorem pairsTo_skip (q : Nat → Nat → Bool) (n i k : Nat) (h : (i != k && q i k) = false) : pairsTo q n i k = pairsTo q n i (k + 1) := by
  funext a
  unfold pairsTo
  have e : rowB q i (k + 1) = rowB q i k := by
    show (if i != k && q i k then Bits.put (rowB q i k) k else rowB q i k) = _
    rw [h]; rfl
  rw [e]
theorem pairsTo_next (q : Nat → Nat → Bool) (n i : Nat) : pairsTo q n i n = pairsTo q n (i + 1) 0 := by
  funext a
  unfold pairsTo
  by_cases e : a < i
  · rw [if_pos e, if_pos (by omega)]
  · rw [if_neg e]
    by_cases e2 : a = i
    · subst e2
      rw [if_pos rfl, if_pos (by omega)]
    · rw [if_neg e2, if_neg (by omega)]
      split <;> rfl
theorem pairsTo_end (q : Nat → Nat → Bool) (n : Nat) : pairsTo q n n 0 = pairsR q n := by
  funext a
  unfold pairsTo pairsR
  by_cases e : a < n
  · rw [if_pos e, if_pos e]
  · rw [if_neg e, if_neg e]
    split <;> rfl
theorem pairs_bit (q : Nat → Nat → Bool) (n i k : Nat) (hi : i < n) (hk : k < n) (hn : n ≤ 64) : hasR (pairsR q n) (i : Int) (k : Int) = (i != k && q i k) := by
  unfold hasR inS pairsR hasS inS
  rw [decide_eq_true (by omega), decide_eq_true (by omega)]
  simp only [Int.toNat_natCast, Bool.true_and]
  rw [if_pos hi, rowB_bit, decide_eq_true hk, Bool.true_and]
attribute [local go_sem ↓] zero_rel
set_option maxRecDepth 100000 in
set_option maxHeartbeats 4000000 in
theorem pairs_session (w : World) (v : Value) (hs : List Txr) (g : Nat) (q : Nat → Nat → Bool) (hv : Txns w v hs) (hn : hs.length ≤ 64)
    (hq : ∀ (w1 : World) (i k : Nat), Ch nob w w1 → i < hs.length → k < hs.length → Calls Try.prog 51 #[.int .i64 i, .int .i64 k, .pointer (some ⟨g, 0, none⟩)] w1 fun e w' => e = .returned (.bool (q i k)) ∧ Ch nob w1 w') :
    Calls Try.prog 50 #[v, .func (.func 51) #[] #[.pointer (some ⟨g, 0, none⟩)]] w fun e w' => e = .returned (.agg (relArr (pairsR q hs.length))) ∧ Ch nob w w' := by
  obtain ⟨A, cp, rfl⟩ := hv.shape
  obtain ⟨n, hn2⟩ : ∃ n, hs.length = n := ⟨_, rfl⟩
  rw [hn2] at hv hn hq ⊢
  have HQ := Lib.hid hq
  clear hv hn2 hq
  go_enter Try.func50, Try.ntmps50
  go_wp2_with fail
  obtain ⟨hz1, hr1, hc1, hs1⟩ := two_new w (relArr fun _ => 0) (relArr fun _ => 0) 51 51
  generalize (w.alloc _).alloc _ = w1 at hr1 hz1 hc1 ⊢
  clear hs1
  have hr2 : Hid (Blk w1 (w.heap.size + 1) (relArr (pairsTo q n 0 0)) 51) := Lib.hid (by
    rw [show pairsTo q n 0 0 = fun _ => 0 from by funext a; unfold pairsTo; rw [if_neg (by omega)]; split <;> rfl]
    exact hr1)
  have hz2 := Lib.hid hz1
  clear hr1 hz1
  go_loopw [10] (fun x wr => ∃ i : Nat, x = .int .i64 i ∧ i ≤ n ∧ Hid (Blk wr (w.heap.size + 1) (relArr (pairsTo q n i 0)) 51) ∧ Hid (Blk wr w.heap.size (relArr fun _ => 0) 51) ∧ Ch nob w wr) (fun x _ => n - (intOf x).toNat)
  case atStart => exact ⟨0, rfl, Nat.zero_le _, hr2, hz2, hc1⟩
  case round =>
    clear hr2 hz2 hc1
    obtain ⟨i, rfl, hi, hr, hz, hc⟩ := hrel
    by_cases hlt : i < n
    · have hd : decide ((i : Int) < (n : Int)) = true := decide_eq_true (by omega)
      go_wp2_with fail
      go_loopw [15] (fun x wr => ∃ k : Nat, x = .int .i64 k ∧ k ≤ n ∧ Hid (Blk wr (w.heap.size + 1) (relArr (pairsTo q n i k)) 51) ∧ Hid (Blk wr w.heap.size (relArr fun _ => 0) 51) ∧ Ch nob w wr) (fun x _ => n - (intOf x).toNat)
      case atStart => exact ⟨0, rfl, Nat.zero_le _, hr, hz, hc⟩
      case round =>
        clear hr hz hc
        obtain ⟨k, rfl, hk, hr, hz, hc⟩ := hrel
        by_cases hlt2 : k < n
        · have hd2 : decide ((k : Int) < (n : Int)) = true := decide_eq_true (by omega)
          by_cases hik : i = k
          · have hne : ((i : Int) != (k : Int)) = false := by rw [hik]; simp
            have HSK := Lib.hid (pairsTo_skip q n i k (by rw [hik]; simp))
            have hr2 : Hid (Blk wr (w.heap.size + 1) (relArr (pairsTo q n i (k + 1))) 51) := Lib.hid (by rw [← HSK.out]; exact hr.out)
            clear hik
            go_wp2_with fail
            go_roundw
            case rel => exact ⟨k + 1, by go_num, by omega, hr2, hz, hc⟩
            case measure => simp [intOf]; omega
          · have hne : ((i : Int) != (k : Int)) = true := by simp; omega
            have hne2 : (i != k) = true := by simp [hik]
            have HC := Lib.hid (HQ.out wr i k hc hlt hlt2)
            go_wp2_with fail
            refine HC.out.mono ?_
            rintro e w2 ⟨rfl, hcq⟩
            have hr3 := Lib.hid (hr.out.ch hcq (fun h => h))
            have hz3 := Lib.hid (hz.out.ch hcq (fun h => h))
            have hc3 := hc.seq hcq
            clear HC hcq hr hz hc
            cases hqb : q i k with
            | false =>
              have HSK := Lib.hid (pairsTo_skip q n i k (by rw [hqb]; simp))
              have hr2 : Hid (Blk w2 (w.heap.size + 1) (relArr (pairsTo q n i (k + 1))) 51) := Lib.hid (by rw [← HSK.out]; exact hr3.out)
              clear hqb
              go_wp2_with fail
              go_roundw
              case rel => exact ⟨k + 1, by go_num, by omega, hr2, hz3, hc3⟩
              case measure => simp [intOf]; omega
            | true =>
              have HAD := Lib.hid (pairsTo_add q n i k (by omega) (by omega) (by rw [hqb, hne2]; rfl))
              clear hqb
              go_wp2_with fail
              refine (add_rel _ (pairsTo_ok q n i k hn (by omega)) (w.heap.size + 1) i k _ hr3.out).mono ?_
              rintro e w4 ⟨rfl, hb4, hc4⟩
              rw [HAD.out] at hb4
              have hr5 := Lib.hid hb4
              have hz5 := Lib.hid (hz3.out.ch hc4 (fun h => by have h' : w.heap.size = w.heap.size + 1 := h; omega))
              have hc5 := hc3.fresh hc4 (by omega)
              clear hb4 hc4 hr3 hz3 hc3
              go_wp2_with fail
              go_roundw
              case rel => exact ⟨k + 1, by go_num, by omega, hr5, hz5, hc5⟩
              case measure => simp [intOf]; omega
        · have hd2 : decide ((k : Int) < (n : Int)) = false := decide_eq_false (by omega)
          obtain rfl : k = n := by omega
          have hr2 : Hid (Blk wr (w.heap.size + 1) (relArr (pairsTo q k (i + 1) 0)) 51) := Lib.hid (by rw [← pairsTo_next]; exact hr.out)
          go_wp2_with fail
          go_roundw
          case rel => exact ⟨i + 1, by go_num, by omega, hr2, hz, hc⟩
          case measure => simp [intOf]; omega
    · have hd : decide ((i : Int) < (n : Int)) = false := decide_eq_false (by omega)
      obtain rfl : i = n := by omega
      have hr2 := hr.out
      rw [pairsTo_end] at hr2
      have hsz : (relArr (pairsR q i)).size = 64 := relArr_size _
      have hce := relArr_cells (pairsR q i)
      obtain ⟨C, hC⟩ : ∃ C, relArr (pairsR q i) = C := ⟨_, rfl⟩
      have HCC := Lib.hid hC
      rw [hC] at hsz hce hr2
      obtain ⟨Z, hZ⟩ : ∃ Z, (relArr fun _ => 0) = Z := ⟨_, rfl⟩
      have hzz : Z.size = 64 := by rw [← hZ]; exact relArr_size _
      have hzo := hz.out
      rw [hZ] at hzo
      clear hC hZ hr hz
      go_wp2_with (first | (refine wpList_load_row rfl 51 (.tmp 5) rfl (w.heap.size + 1) rfl 51 C (0, 0) _ hr2 rfl rfl (by rw [hsz]; kernel_rfl) ?_) | (refine wpList_store_row rfl 51 (.tmp 4) (.tmp 32) rfl w.heap.size C rfl rfl 51 _ hzo (by rw [hsz]; kernel_rfl) (by rw [hzz, hsz]) hce ?_))
      have hz3 := hzo.row C
      have hc3 := hc.setRow w.heap.size C (fun h => by omega)
      exact bodyPost_ret (v := .agg C) (results_cell_row rfl _ _ w.heap.size 51 C (0, 0) _ rfl hz3 rfl rfl (by rw [hsz]; kernel_rfl)) rfl ⟨by rw [HCC.out], hc3⟩
set_option maxRecDepth 100000 in
set_option maxHeartbeats 4000000 in
theorem pairs_time (w : World) (v : Value) (hs : List Txr) (g : Nat) (q : Nat → Nat → Bool) (hv : Txns w v hs) (hn : hs.length ≤ 64)
    (hq : ∀ (w1 : World) (i k : Nat), Ch nob w w1 → i < hs.length → k < hs.length → Calls Try.prog 52 #[.int .i64 i, .int .i64 k, .pointer (some ⟨g, 0, none⟩)] w1 fun e w' => e = .returned (.bool (q i k)) ∧ Ch nob w1 w') :
    Calls Try.prog 50 #[v, .func (.func 52) #[] #[.pointer (some ⟨g, 0, none⟩)]] w fun e w' => e = .returned (.agg (relArr (pairsR q hs.length))) ∧ Ch nob w w' := by
  obtain ⟨A, cp, rfl⟩ := hv.shape
  obtain ⟨n, hn2⟩ : ∃ n, hs.length = n := ⟨_, rfl⟩
  rw [hn2] at hv hn hq ⊢
  have HQ := Lib.hid hq
  clear hv hn2 hq
  go_enter Try.func50, Try.ntmps50
  go_wp2_with fail
  obtain ⟨hz1, hr1, hc1, hs1⟩ := two_new w (relArr fun _ => 0) (relArr fun _ => 0) 51 51
  generalize (w.alloc _).alloc _ = w1 at hr1 hz1 hc1 ⊢
  clear hs1
  have hr2 : Hid (Blk w1 (w.heap.size + 1) (relArr (pairsTo q n 0 0)) 51) := Lib.hid (by
    rw [show pairsTo q n 0 0 = fun _ => 0 from by funext a; unfold pairsTo; rw [if_neg (by omega)]; split <;> rfl]
    exact hr1)
  have hz2 := Lib.hid hz1
  clear hr1 hz1
  go_loopw [10] (fun x wr => ∃ i : Nat, x = .int .i64 i ∧ i ≤ n ∧ Hid (Blk wr (w.heap.size + 1) (relArr (pairsTo q n i 0)) 51) ∧ Hid (Blk wr w.heap.size (relArr fun _ => 0) 51) ∧ Ch nob w wr) (fun x _ => n - (intOf x).toNat)
  case atStart => exact ⟨0, rfl, Nat.zero_le _, hr2, hz2, hc1⟩
  case round =>
    clear hr2 hz2 hc1
    obtain ⟨i, rfl, hi, hr, hz, hc⟩ := hrel
    by_cases hlt : i < n
    · have hd : decide ((i : Int) < (n : Int)) = true := decide_eq_true (by omega)
      go_wp2_with fail
      go_loopw [15] (fun x wr => ∃ k : Nat, x = .int .i64 k ∧ k ≤ n ∧ Hid (Blk wr (w.heap.size + 1) (relArr (pairsTo q n i k)) 51) ∧ Hid (Blk wr w.heap.size (relArr fun _ => 0) 51) ∧ Ch nob w wr) (fun x _ => n - (intOf x).toNat)
      case atStart => exact ⟨0, rfl, Nat.zero_le _, hr, hz, hc⟩
      case round =>
        clear hr hz hc
        obtain ⟨k, rfl, hk, hr, hz, hc⟩ := hrel
        by_cases hlt2 : k < n
        · have hd2 : decide ((k : Int) < (n : Int)) = true := decide_eq_true (by omega)
          by_cases hik : i = k
          · have hne : ((i : Int) != (k : Int)) = false := by rw [hik]; simp
            have HSK := Lib.hid (pairsTo_skip q n i k (by rw [hik]; simp))
            have hr2 : Hid (Blk wr (w.heap.size + 1) (relArr (pairsTo q n i (k + 1))) 51) := Lib.hid (by rw [← HSK.out]; exact hr.out)
            clear hik
            go_wp2_with fail
            go_roundw
            case rel => exact ⟨k + 1, by go_num, by omega, hr2, hz, hc⟩
            case measure => simp [intOf]; omega
          · have hne : ((i : Int) != (k : Int)) = true := by simp; omega
            have hne2 : (i != k) = true := by simp [hik]
            have HC := Lib.hid (HQ.out wr i k hc hlt hlt2)
            go_wp2_with fail
            refine HC.out.mono ?_
            rintro e w2 ⟨rfl, hcq⟩
            have hr3 := Lib.hid (hr.out.ch hcq (fun h => h))
            have hz3 := Lib.hid (hz.out.ch hcq (fun h => h))
            have hc3 := hc.seq hcq
            clear HC hcq hr hz hc
            cases hqb : q i k with
            | false =>
              have HSK := Lib.hid (pairsTo_skip q n i k (by rw [hqb]; simp))
              have hr2 : Hid (Blk w2 (w.heap.size + 1) (relArr (pairsTo q n i (k + 1))) 51) := Lib.hid (by rw [← HSK.out]; exact hr3.out)
              clear hqb
              go_wp2_with fail
              go_roundw
              case rel => exact ⟨k + 1, by go_num, by omega, hr2, hz3, hc3⟩
              case measure => simp [intOf]; omega
            | true =>
              have HAD := Lib.hid (pairsTo_add q n i k (by omega) (by omega) (by rw [hqb, hne2]; rfl))
              clear hqb
              go_wp2_with fail
              refine (add_rel _ (pairsTo_ok q n i k hn (by omega)) (w.heap.size + 1) i k _ hr3.out).mono ?_
              rintro e w4 ⟨rfl, hb4, hc4⟩
              rw [HAD.out] at hb4
              have hr5 := Lib.hid hb4
              have hz5 := Lib.hid (hz3.out.ch hc4 (fun h => by have h' : w.heap.size = w.heap.size + 1 := h; omega))
              have hc5 := hc3.fresh hc4 (by omega)
              clear hb4 hc4 hr3 hz3 hc3
              go_wp2_with fail
              go_roundw
              case rel => exact ⟨k + 1, by go_num, by omega, hr5, hz5, hc5⟩
              case measure => simp [intOf]; omega
        · have hd2 : decide ((k : Int) < (n : Int)) = false := decide_eq_false (by omega)
          obtain rfl : k = n := by omega
          have hr2 : Hid (Blk wr (w.heap.size + 1) (relArr (pairsTo q k (i + 1) 0)) 51) := Lib.hid (by rw [← pairsTo_next]; exact hr.out)
          go_wp2_with fail
          go_roundw
          case rel => exact ⟨i + 1, by go_num, by omega, hr2, hz, hc⟩
          case measure => simp [intOf]; omega
    · have hd : decide ((i : Int) < (n : Int)) = false := decide_eq_false (by omega)
      obtain rfl : i = n := by omega
      have hr2 := hr.out
      rw [pairsTo_end] at hr2
      have hsz : (relArr (pairsR q i)).size = 64 := relArr_size _
      have hce := relArr_cells (pairsR q i)
      obtain ⟨C, hC⟩ : ∃ C, relArr (pairsR q i) = C := ⟨_, rfl⟩
      have HCC := Lib.hid hC
      rw [hC] at hsz hce hr2
      obtain ⟨Z, hZ⟩ : ∃ Z, (relArr fun _ => 0) = Z := ⟨_, rfl⟩
      have hzz : Z.size = 64 := by rw [← hZ]; exact relArr_size _
      have hzo := hz.out
      rw [hZ] at hzo
      clear hC hZ hr hz
      go_wp2_with (first | (refine wpList_load_row rfl 51 (.tmp 5) rfl (w.heap.size + 1) rfl 51 C (0, 0) _ hr2 rfl rfl (by rw [hsz]; kernel_rfl) ?_) | (refine wpList_store_row rfl 51 (.tmp 4) (.tmp 32) rfl w.heap.size C rfl rfl 51 _ hzo (by rw [hsz]; kernel_rfl) (by rw [hzz, hsz]) hce ?_))
      have hz3 := hzo.row C
      have hc3 := hc.setRow w.heap.size C (fun h => by omega)
      exact bodyPost_ret (v := .agg C) (results_cell_row rfl _ _ w.heap.size 51 C (0, 0) _ rfl hz3 rfl rfl (by rw [hsz]; kernel_rfl)) rfl ⟨by rw [HCC.out], hc3⟩
end Go.Proofs.Ytobfanodjdkkoaa
end

section
/- Regions that draw their order and whose operations make memory, in any order: each operation yields a value of which something holds that no later operation of the region undoes. No condition. -/
set_option linter.unusedVariables false
set_option linter.unusedSimpArgs false
namespace Go.Proofs.Ytobfanodjdkkoaa
open Go.RowKit

section
variable {P : Program} {Q : Exit → Act → World → Prop}
theorem wp_over {o : Oper} {a : Act} {w : World} {K : Act → World → Prop} (h : o.wp P a w K (Exit.then K Q)) : o.wp P a w K Q := by
  unfold Oper.wp at *
  generalize (execOp a.eval o).run P w = r at *
  cases r with
  | ok n w' =>
    cases n <;> simp only [Oper.upon] at h ⊢ <;>
      first
        | exact h
        | exact Calls.mono h (fun e w'' he => by cases e <;> exact he)
  | halt x w' => cases x <;> simp only [Oper.upon] at h ⊢ <;> exact h
/-- One operation, as a list of its own. -/
theorem wpOp_of_list {ops : Array Oper} {i : Nat} {o : Oper} {a : Act} {w : World} {K : Act → World → Prop} (hi : ops[i]? = some o) (h : wpList P ops (Exit.then K Q) [o] a w) : wpOp P ops Q i K a w := by
  unfold wpOp
  rw [hi]
  unfold wpList at h
  have e : wpList P ops (Exit.then K Q) [] = K := by funext a w; rfl
  rw [e] at h
  dsimp only
  split at h
  · rename_i hw
    rw [if_pos hw]
    rcases h with h | ⟨h1, h2⟩
    · exact .inl (wp_over h)
    · exact .inr ⟨h1, h2⟩
  · rename_i hw
    rw [if_neg hw]
    exact h
/-- All that the operations yield, put in their slots. -/
def putAll (vals : Nat → Value) : Nat → List Oper → Act → Act
  | _, [], a => a
  | k, o :: l, a => putAll vals (k + 1) l (a.put o.dst (vals k))
/-- No slot twice. -/
def dstOnce : List Oper → Bool
  | [] => true
  | o :: l => (match o.dst with | some s => l.all fun p => p.dst != some s | none => true) && dstOnce l
def dstIn (n : Nat) (l : List Oper) : Bool := l.all fun o => match o.dst with | some s => decide (s < n) | none => true
/-- What an operation waits for stands ahead of it. -/
def backB : Nat → List Oper → Bool
  | _, [] => true
  | k, o :: l => o.after.all (fun e => decide (e.on < k)) && backB (k + 1) l
theorem dst_one : ∀ {l : List Oper}, dstOnce l = true → ∀ {i j : Nat} {p q : Oper} {s : Nat}, l[i]? = some p → l[j]? = some q → p.dst = some s → q.dst = some s → i = j
  | [], _, i, j, p, q, s, hi, _, _, _ => by simp at hi
  | o :: l, h, i, j, p, q, s, hi, hj, hp, hq => by
    simp only [dstOnce, Bool.and_eq_true] at h
    have key : ∀ {m : Nat} {r : Oper}, o.dst = some s → l[m]? = some r → r.dst = some s → False := fun {m r} ho hm hr => by
      have h1 := h.1
      rw [ho] at h1
      simp only [List.all_eq_true] at h1
      have := h1 r (List.mem_of_getElem? hm)
      rw [hr] at this
      simp at this
    cases i with
    | zero =>
      cases j with
      | zero => rfl
      | succ j =>
        simp at hi hj
        subst hi
        exact (key hp hj hq).elim
    | succ i =>
      cases j with
      | zero =>
        simp at hi hj
        subst hj
        exact (key hq hi hp).elim
      | succ j =>
        simp at hi hj
        rw [dst_one h.2 hi hj hp hq]
theorem back_of : ∀ {l : List Oper} {k : Nat}, backB k l = true → ∀ {i : Nat} {o : Oper}, l[i]? = some o → ∀ e ∈ o.after, e.on < k + i
  | [], _, _, i, o, hi, _, _ => by simp at hi
  | p :: l, k, h, i, o, hi, e, he => by
    simp only [backB, Bool.and_eq_true, Array.all_eq_true_iff_forall_mem, decide_eq_true_eq] at h
    cases i with
    | zero =>
      simp at hi
      subst hi
      exact h.1 e he
    | succ i =>
      simp at hi
      have := back_of h.2 hi e he
      omega
theorem putAll_defers (vals : Nat → Value) : ∀ (l : List Oper) (k : Nat) (a : Act), (putAll vals k l a).defers = a.defers
  | [], _, _ => rfl
  | o :: l, k, a => by
    unfold putAll
    rw [putAll_defers vals l]
    unfold Act.put
    split <;> rfl
theorem put_size (a : Act) (d : Option Tmp) (v : Value) : (a.put d v).tmps.size = a.tmps.size := by
  unfold Act.put
  split <;> simp
theorem putAll_size (vals : Nat → Value) : ∀ (l : List Oper) (k : Nat) (a : Act), (putAll vals k l a).tmps.size = a.tmps.size
  | [], _, _ => rfl
  | o :: l, k, a => by
    unfold putAll
    rw [putAll_size vals l, put_size]
theorem put_other {a : Act} {d : Option Tmp} {v : Value} {s : Nat} (h : d ≠ some s) : (a.put d v).tmps[s]? = a.tmps[s]? := by
  unfold Act.put
  split
  · rename_i t
    have : t ≠ s := fun e => h (by rw [e])
    simp [Array.getElem?_setIfInBounds_ne this]
  · rfl
theorem put_same {a : Act} {v : Value} {s : Nat} (h : s < a.tmps.size) : (a.put (some s) v).tmps[s]? = some v := by
  unfold Act.put
  simp [h]
theorem putAll_other (vals : Nat → Value) : ∀ (l : List Oper) (k : Nat) (a : Act) (s : Nat), (∀ o ∈ l, o.dst ≠ some s) → (putAll vals k l a).tmps[s]? = a.tmps[s]?
  | [], _, _, _, _ => rfl
  | o :: l, k, a, s, h => by
    unfold putAll
    rw [putAll_other vals l (k + 1) _ s (fun p hp => h p (List.mem_cons_of_mem _ hp)), put_other (h o (List.mem_cons_self ..))]
theorem putAll_at (vals : Nat → Value) : ∀ (l : List Oper) (k : Nat) (a : Act) (s i : Nat) (o : Oper), dstOnce l = true → l[i]? = some o → o.dst = some s → s < a.tmps.size → (putAll vals k l a).tmps[s]? = some (vals (k + i))
  | [], _, _, _, i, _, _, hi, _, _ => by simp at hi
  | p :: l, k, a, s, i, o, hd, hi, ho, hs => by
    unfold putAll
    have hd2 := hd
    simp only [dstOnce, Bool.and_eq_true] at hd
    cases i with
    | zero =>
      simp at hi
      subst hi
      rw [putAll_other vals l (k + 1) _ s, ho, put_same hs]
      · rfl
      · intro q hq e
        have h1 := hd.1
        rw [ho] at h1
        simp only [List.all_eq_true] at h1
        have := h1 q hq
        rw [e] at this
        simp at this
    | succ i =>
      simp at hi
      rw [putAll_at vals l (k + 1) _ s i o hd.2 hi ho (by rw [put_size]; exact hs)]
      rw [show k + 1 + i = k + (i + 1) by omega]

/-- How far the region has come. -/
structure YInv (l : List Oper) (R : Nat → Value → World → Prop) (w0 : World) (a0 : Act) (listed : Array Bool) (a : Act) (w : World) : Prop where
  lsz : listed.size = l.length
  ch : Ch nob w0 w
  defs : a.defers = a0.defers
  size : a.tmps.size = a0.tmps.size
  old : ∀ s, (∀ i o, l[i]? = some o → listed.getD i false = true → o.dst ≠ some s) → a.tmps[s]? = a0.tmps[s]?
  val : ∀ i o s, l[i]? = some o → listed.getD i false = true → o.dst = some s → ∃ v, a.tmps[s]? = some v ∧ R i v w
/-- What an operation may lean on. -/
structure YKnow (l : List Oper) (R : Nat → Value → World → Prop) (w0 : World) (a0 : Act) (o : Oper) (a : Act) (w : World) : Prop where
  ch : Ch nob w0 w
  old : ∀ s, (∀ p ∈ l, p.dst ≠ some s) → a.tmps[s]? = a0.tmps[s]?
  val : ∀ e ∈ o.after, Region.binds .any e = true → ∀ p s, l[e.on]? = some p → p.dst = some s → ∃ v, a.tmps[s]? = some v ∧ R e.on v w
theorem wp_region_yield {id : Nat} {a0 : Act} {w0 : World} {l : List Oper} (R : Nat → Value → World → Prop) (hm : P.follows .mixedOrders = true) (hd : dstOnce l = true) (hz : dstIn a0.tmps.size l = true) (hb : backB 0 l = true)
    (stable : ∀ i v w w', R i v w → Ch nob w w' → R i v w')
    (step : ∀ i o, l[i]? = some o → ∀ a w, YKnow l R w0 a0 o a w → ∀ K : Act → World → Prop, (∀ v w', R i v w' → Ch nob w w' → K (a.put o.dst v) w') → wpList P l.toArray (Exit.then K Q) [o] a w)
    (done : ∀ vals w', (∀ i o s, l[i]? = some o → o.dst = some s → R i (vals i) w') → Ch nob w0 w' → Q .normal (putAll vals 0 l a0) w') : (Code.region id l.toArray true).wp P Q a0 w0 := by
  refine wp_region_any hm ?_
  have hfin : ∀ listed a w, YInv l R w0 a0 listed a w → (∀ i, i < l.length → listed.getD i false = true) → Q .normal a w := fun listed a w inv hall => by
    have hval : ∀ i : Nat, ∃ v : Value, ∀ (o : Oper) (s : Tmp), l[i]? = some o → o.dst = some s → a.tmps[s]? = some v ∧ R i v w := fun i => by
      cases hi : l[i]? with
      | none => exact ⟨undef, fun o s h => by cases h⟩
      | some o =>
        cases ho : o.dst with
        | none => exact ⟨undef, fun p s h h2 => by cases h; rw [ho] at h2; cases h2⟩
        | some s =>
          obtain ⟨v, h1, h2⟩ := inv.val i o s hi (hall i (List.getElem?_eq_some_iff.1 hi).1) ho
          exact ⟨v, fun p s' h h3 => by cases h; rw [ho] at h3; cases h3; exact ⟨h1, h2⟩⟩
    obtain ⟨vals, hvals⟩ : ∃ vals : Nat → Value, ∀ (i : Nat) (o : Oper) (s : Tmp), l[i]? = some o → o.dst = some s → a.tmps[s]? = some (vals i) ∧ R i (vals i) w := ⟨fun i => Classical.choose (hval i), fun i => Classical.choose_spec (hval i)⟩
    have e : a = putAll vals 0 l a0 := by
      have ht : a.tmps = (putAll vals 0 l a0).tmps := by
        apply Array.ext_getElem?
        intro s
        by_cases hs : ∃ (i : Nat) (o : Oper), l[i]? = some o ∧ o.dst = some s
        · obtain ⟨i, o, h1, h2⟩ := hs
          have h3 : s < a0.tmps.size := by
            unfold dstIn at hz
            rw [List.all_eq_true] at hz
            have := hz o (List.mem_of_getElem? h1)
            rw [h2] at this
            simpa using this
          rw [(hvals i o s h1 h2).1, putAll_at vals l 0 a0 s i o hd h1 h2 h3, Nat.zero_add]
        · have hno : ∀ o : Oper, o ∈ l → o.dst ≠ some s := fun o ho e => hs (by
            obtain ⟨i, hi⟩ := List.getElem?_of_mem ho
            exact ⟨i, o, hi, e⟩)
          rw [putAll_other vals l 0 a0 s hno]
          exact inv.old s (fun i o hi _ => hno o (List.mem_of_getElem? hi))
      have hdf : a.defers = (putAll vals 0 l a0).defers := by rw [putAll_defers]; exact inv.defs
      obtain ⟨t1, d1⟩ := a
      cases hp : putAll vals 0 l a0 with
      | mk t2 d2 =>
        rw [hp] at ht hdf
        simp only at ht hdf
        rw [ht, hdf]
    rw [e]
    exact done vals w (fun i o s h1 h2 => (hvals i o s h1 h2).2) inv.ch
  have hready : ∀ listed a w, YInv l R w0 a0 listed a w → Region.ready .any l.toArray listed = [] → ∀ i, i < l.length → listed.getD i false = true := fun listed a w inv hr => by
    intro i
    induction i using Nat.strongRecOn with
    | ind i ih =>
      intro hi
      cases hl : listed.getD i false with
      | true => rfl
      | false =>
        exfalso
        have hi2 : l[i]? = some l[i] := List.getElem?_eq_getElem hi
        have : i ∈ Region.ready .any l.toArray listed := mem_ready.2 ⟨by
          rw [Array.getD_eq_getD_getElem?, Array.getElem?_eq_getElem (by rw [inv.lsz]; exact hi)] at hl ⊢
          exact hl, l[i], by simp, fun e he _ => ih e.on (by have := back_of hb hi2 e he; omega) (by have := back_of hb hi2 e he; omega)⟩
        rw [hr] at this
        cases this
  have main : ∀ fuel listed a w, YInv l R w0 a0 listed a w → listed.count false ≤ fuel → wpAny P .any l.toArray Q fuel listed a w := by
    intro fuel
    induction fuel with
    | zero =>
      intro listed a w inv hc
      have hall : ∀ i, i < l.length → listed.getD i false = true := fun i hi => by
        cases hl : listed.getD i false with
        | true => rfl
        | false =>
          exfalso
          have h1 : false ∈ listed := by
            rw [Array.getD_eq_getD_getElem?, Array.getElem?_eq_getElem (by rw [inv.lsz]; exact hi), Option.getD_some] at hl
            rw [← hl]; exact Array.getElem_mem _
          have := Array.count_pos_iff.2 h1
          omega
      refine ⟨?_, hfin listed a w inv hall⟩
      apply List.eq_nil_iff_forall_not_mem.2
      intro j hj
      obtain ⟨h1, o, h2, _⟩ := mem_ready.1 hj
      have hj2 : j < l.length := by
        have := (Array.getElem?_eq_some_iff.1 h2).1
        simpa using this
      have := hall j hj2
      rw [Array.getD_eq_getD_getElem?, Array.getElem?_eq_getElem (by rw [inv.lsz]; exact hj2)] at h1 this
      simp at h1 this
      rw [h1] at this
      cases this
    | succ fuel ih =>
      intro listed a w inv hc
      refine ⟨fun hr => hfin listed a w inv (hready listed a w inv hr), fun i hi => ?_⟩
      obtain ⟨h1, o, h2, h3⟩ := mem_ready.1 hi
      have h2' : l[i]? = some o := by simpa using h2
      have hil : i < l.length := (List.getElem?_eq_some_iff.1 h2').1
      have hlt : i < listed.size := by rw [inv.lsz]; exact hil
      have hcur : listed[i] = false := by
        rw [Array.getD_eq_getD_getElem?, Array.getElem?_eq_getElem hlt] at h1
        exact h1
      refine wpOp_of_list h2 (step i o h2' a w ⟨inv.ch, fun s hs => inv.old s (fun j p hj _ => hs p (List.mem_of_getElem? hj)), fun e he hbd p s hp hs => inv.val e.on p s hp (h3 e he hbd) hs⟩ _ (fun v w' hv hcw => ?_))
      have gset : ∀ j, (listed.setIfInBounds i true).getD j false = true → j = i ∨ listed.getD j false = true := fun j hj => by
        by_cases e : i = j
        · exact .inl e.symm
        · rw [getD_set_ne false e] at hj; exact .inr hj
      have hsz : ∀ s, o.dst = some s → s < a.tmps.size := fun s hs => by
        rw [inv.size]
        unfold dstIn at hz
        rw [List.all_eq_true] at hz
        have := hz o (List.mem_of_getElem? h2')
        rw [hs] at this
        simpa using this
      refine ih _ _ _ ⟨by simpa using inv.lsz, inv.ch.seq hcw, ?_, by rw [put_size]; exact inv.size, fun s hs => ?_, fun j p s hj hlj hp => ?_⟩ ?_
      · have : (a.put o.dst v).defers = a.defers := by unfold Act.put; split <;> rfl
        rw [this]; exact inv.defs
      · rw [put_other (hs i o h2' (by simp [hlt]))]
        refine inv.old s (fun j p hj hlj => hs j p hj (getD_set_true hlj))
      · by_cases e : j = i
        · subst e
          rw [h2'] at hj
          cases hj
          rw [hp]
          exact ⟨v, put_same (hsz s hp), hv⟩
        · have hne : o.dst ≠ some s := fun e2 => e (dst_one hd hj h2' hp e2)
          rw [put_other hne]
          obtain ⟨u, hu1, hu2⟩ := inv.val j p s hj ((gset j hlj).resolve_left e) hp
          exact ⟨u, hu1, stable _ _ _ _ hu2 hcw⟩
      · have hcs := Array.count_set (a := true) (b := false) (xs := listed) (i := i) hlt
        rw [show listed.setIfInBounds i true = listed.set i true hlt from by simp [Array.setIfInBounds, hlt]]
        rw [hcs, hcur]
        simp
        omega
  have inv0 : YInv l R w0 a0 (Array.replicate l.toArray.size false) a0 { w0 with drawn := w0.drawn + 1 } := by
    have hno : ∀ i, (Array.replicate l.toArray.size false).getD i false = false := fun i => by
      rw [Array.getD_eq_getD_getElem?]
      by_cases h : i < l.toArray.size
      · simp only [Array.getElem?_replicate]; split <;> rfl
      · simp only [Array.getElem?_replicate]; split <;> rfl
    exact ⟨by simp, (Ch.refl nob w0).drew, rfl, rfl, fun s _ => rfl, fun i o s _ h => by rw [hno] at h; cases h⟩
  refine main l.toArray.size _ _ _ inv0 ?_
  simp [Array.count_replicate]
/-! ### For operations that change old things -/
/-- How far the region has come. -/
structure ZInv (l : List Oper) (R : Nat → Value → World → Prop) (Pre : Nat → World → Prop) (a0 : Act) (listed : Array Bool) (a : Act) (w : World) : Prop where
  lsz : listed.size = l.length
  pre : ∀ i, listed.getD i false = false → Pre i w
  defs : a.defers = a0.defers
  size : a.tmps.size = a0.tmps.size
  old : ∀ s, (∀ i o, l[i]? = some o → listed.getD i false = true → o.dst ≠ some s) → a.tmps[s]? = a0.tmps[s]?
  val : ∀ i o s, l[i]? = some o → listed.getD i false = true → o.dst = some s → ∃ v, a.tmps[s]? = some v ∧ R i v w
/-- What an operation may lean on. -/
structure ZKnow (l : List Oper) (R : Nat → Value → World → Prop) (a0 : Act) (o : Oper) (a : Act) (w : World) : Prop where
  old : ∀ s, (∀ p ∈ l, p.dst ≠ some s) → a.tmps[s]? = a0.tmps[s]?
  val : ∀ e ∈ o.after, Region.binds .any e = true → ∀ p s, l[e.on]? = some p → p.dst = some s → ∃ v, a.tmps[s]? = some v ∧ R e.on v w
/-- As wp_region_yield, for operations that change old things too: of each, what it needs of the world (Pre), and what it may change (E): no other one's value, nor need, may lean on that. -/
theorem wp_region_yield2 {id : Nat} {a0 : Act} {w0 : World} {l : List Oper} (R : Nat → Value → World → Prop) (Pre : Nat → World → Prop) (E : Nat → World → World → Prop) (hm : P.follows .mixedOrders = true) (hd : dstOnce l = true) (hz : dstIn a0.tmps.size l = true) (hb : backB 0 l = true)
    (stable : ∀ i j v w w', i ≠ j → R i v w → E j w w' → R i v w') (keeps : ∀ i j w w', i ≠ j → Pre i w → E j w w' → Pre i w') (start : ∀ i, Pre i w0.drew)
    (step : ∀ i o, l[i]? = some o → ∀ a w, Pre i w → ZKnow l R a0 o a w → ∀ K : Act → World → Prop, (∀ v w', R i v w' → E i w w' → K (a.put o.dst v) w') → wpList P l.toArray (Exit.then K Q) [o] a w)
    (done : ∀ vals w', (∀ i o s, l[i]? = some o → o.dst = some s → R i (vals i) w') → Q .normal (putAll vals 0 l a0) w') : (Code.region id l.toArray true).wp P Q a0 w0 := by
  refine wp_region_any hm ?_
  have hfin : ∀ listed a w, ZInv l R Pre a0 listed a w → (∀ i, i < l.length → listed.getD i false = true) → Q .normal a w := fun listed a w inv hall => by
    have hval : ∀ i : Nat, ∃ v : Value, ∀ (o : Oper) (s : Tmp), l[i]? = some o → o.dst = some s → a.tmps[s]? = some v ∧ R i v w := fun i => by
      cases hi : l[i]? with
      | none => exact ⟨undef, fun o s h => by cases h⟩
      | some o =>
        cases ho : o.dst with
        | none => exact ⟨undef, fun p s h h2 => by cases h; rw [ho] at h2; cases h2⟩
        | some s =>
          obtain ⟨v, h1, h2⟩ := inv.val i o s hi (hall i (List.getElem?_eq_some_iff.1 hi).1) ho
          exact ⟨v, fun p s' h h3 => by cases h; rw [ho] at h3; cases h3; exact ⟨h1, h2⟩⟩
    obtain ⟨vals, hvals⟩ : ∃ vals : Nat → Value, ∀ (i : Nat) (o : Oper) (s : Tmp), l[i]? = some o → o.dst = some s → a.tmps[s]? = some (vals i) ∧ R i (vals i) w := ⟨fun i => Classical.choose (hval i), fun i => Classical.choose_spec (hval i)⟩
    have e : a = putAll vals 0 l a0 := by
      have ht : a.tmps = (putAll vals 0 l a0).tmps := by
        apply Array.ext_getElem?
        intro s
        by_cases hs : ∃ (i : Nat) (o : Oper), l[i]? = some o ∧ o.dst = some s
        · obtain ⟨i, o, h1, h2⟩ := hs
          have h3 : s < a0.tmps.size := by
            unfold dstIn at hz
            rw [List.all_eq_true] at hz
            have := hz o (List.mem_of_getElem? h1)
            rw [h2] at this
            simpa using this
          rw [(hvals i o s h1 h2).1, putAll_at vals l 0 a0 s i o hd h1 h2 h3, Nat.zero_add]
        · have hno : ∀ o : Oper, o ∈ l → o.dst ≠ some s := fun o ho e => hs (by
            obtain ⟨i, hi⟩ := List.getElem?_of_mem ho
            exact ⟨i, o, hi, e⟩)
          rw [putAll_other vals l 0 a0 s hno]
          exact inv.old s (fun i o hi _ => hno o (List.mem_of_getElem? hi))
      have hdf : a.defers = (putAll vals 0 l a0).defers := by rw [putAll_defers]; exact inv.defs
      obtain ⟨t1, d1⟩ := a
      cases hp : putAll vals 0 l a0 with
      | mk t2 d2 =>
        rw [hp] at ht hdf
        simp only at ht hdf
        rw [ht, hdf]
    rw [e]
    exact done vals w (fun i o s h1 h2 => (hvals i o s h1 h2).2)
  have hready : ∀ listed a w, ZInv l R Pre a0 listed a w → Region.ready .any l.toArray listed = [] → ∀ i, i < l.length → listed.getD i false = true := fun listed a w inv hr => by
    intro i
    induction i using Nat.strongRecOn with
    | ind i ih =>
      intro hi
      cases hl : listed.getD i false with
      | true => rfl
      | false =>
        exfalso
        have hi2 : l[i]? = some l[i] := List.getElem?_eq_getElem hi
        have : i ∈ Region.ready .any l.toArray listed := mem_ready.2 ⟨by
          rw [Array.getD_eq_getD_getElem?, Array.getElem?_eq_getElem (by rw [inv.lsz]; exact hi)] at hl ⊢
          exact hl, l[i], by simp, fun e he _ => ih e.on (by have := back_of hb hi2 e he; omega) (by have := back_of hb hi2 e he; omega)⟩
        rw [hr] at this
        cases this
  have main : ∀ fuel listed a w, ZInv l R Pre a0 listed a w → listed.count false ≤ fuel → wpAny P .any l.toArray Q fuel listed a w := by
    intro fuel
    induction fuel with
    | zero =>
      intro listed a w inv hc
      have hall : ∀ i, i < l.length → listed.getD i false = true := fun i hi => by
        cases hl : listed.getD i false with
        | true => rfl
        | false =>
          exfalso
          have h1 : false ∈ listed := by
            rw [Array.getD_eq_getD_getElem?, Array.getElem?_eq_getElem (by rw [inv.lsz]; exact hi), Option.getD_some] at hl
            rw [← hl]; exact Array.getElem_mem _
          have := Array.count_pos_iff.2 h1
          omega
      refine ⟨?_, hfin listed a w inv hall⟩
      apply List.eq_nil_iff_forall_not_mem.2
      intro j hj
      obtain ⟨h1, o, h2, _⟩ := mem_ready.1 hj
      have hj2 : j < l.length := by
        have := (Array.getElem?_eq_some_iff.1 h2).1
        simpa using this
      have := hall j hj2
      rw [Array.getD_eq_getD_getElem?, Array.getElem?_eq_getElem (by rw [inv.lsz]; exact hj2)] at h1 this
      simp at h1 this
      rw [h1] at this
      cases this
    | succ fuel ih =>
      intro listed a w inv hc
      refine ⟨fun hr => hfin listed a w inv (hready listed a w inv hr), fun i hi => ?_⟩
      obtain ⟨h1, o, h2, h3⟩ := mem_ready.1 hi
      have h2' : l[i]? = some o := by simpa using h2
      have hil : i < l.length := (List.getElem?_eq_some_iff.1 h2').1
      have hlt : i < listed.size := by rw [inv.lsz]; exact hil
      have hcur : listed[i] = false := by
        rw [Array.getD_eq_getD_getElem?, Array.getElem?_eq_getElem hlt] at h1
        exact h1
      refine wpOp_of_list h2 (step i o h2' a w (inv.pre i (by rw [Array.getD_eq_getD_getElem?, Array.getElem?_eq_getElem hlt]; exact hcur)) ⟨fun s hs => inv.old s (fun j p hj _ => hs p (List.mem_of_getElem? hj)), fun e he hbd p s hp hs => inv.val e.on p s hp (h3 e he hbd) hs⟩ _ (fun v w' hv hcw => ?_))
      have gset : ∀ j, (listed.setIfInBounds i true).getD j false = true → j = i ∨ listed.getD j false = true := fun j hj => by
        by_cases e : i = j
        · exact .inl e.symm
        · rw [getD_set_ne false e] at hj; exact .inr hj
      have hsz : ∀ s, o.dst = some s → s < a.tmps.size := fun s hs => by
        rw [inv.size]
        unfold dstIn at hz
        rw [List.all_eq_true] at hz
        have := hz o (List.mem_of_getElem? h2')
        rw [hs] at this
        simpa using this
      refine ih _ _ _ ⟨by simpa using inv.lsz, fun j hj => ?_, ?_, by rw [put_size]; exact inv.size, fun s hs => ?_, fun j p s hj hlj hp => ?_⟩ ?_
      · have hne : j ≠ i := fun e => by
          rw [e] at hj
          simp [hlt] at hj
        rw [getD_set_ne false (Ne.symm hne)] at hj
        exact keeps _ _ _ _ hne (inv.pre j hj) hcw
      · have : (a.put o.dst v).defers = a.defers := by unfold Act.put; split <;> rfl
        rw [this]; exact inv.defs
      · rw [put_other (hs i o h2' (by simp [hlt]))]
        refine inv.old s (fun j p hj hlj => hs j p hj (getD_set_true hlj))
      · by_cases e : j = i
        · subst e
          rw [h2'] at hj
          cases hj
          rw [hp]
          exact ⟨v, put_same (hsz s hp), hv⟩
        · have hne : o.dst ≠ some s := fun e2 => e (dst_one hd hj h2' hp e2)
          rw [put_other hne]
          obtain ⟨u, hu1, hu2⟩ := inv.val j p s hj ((gset j hlj).resolve_left e) hp
          exact ⟨u, hu1, stable _ _ _ _ _ e hu2 hcw⟩
      · have hcs := Array.count_set (a := true) (b := false) (xs := listed) (i := i) hlt
        rw [show listed.setIfInBounds i true = listed.set i true hlt from by simp [Array.setIfInBounds, hlt]]
        rw [hcs, hcur]
        simp
        omega
  have inv0 : ZInv l R Pre a0 (Array.replicate l.toArray.size false) a0 w0.drew := by
    have hno : ∀ i, (Array.replicate l.toArray.size false).getD i false = false := fun i => by
      rw [Array.getD_eq_getD_getElem?]
      by_cases h : i < l.toArray.size
      · simp only [Array.getElem?_replicate]; split <;> rfl
      · simp only [Array.getElem?_replicate]; split <;> rfl
    exact ⟨by simp, fun i _ => start i, rfl, rfl, fun s _ => rfl, fun i o s _ h => by rw [hno] at h; cases h⟩
  refine main l.toArray.size _ _ _ inv0 ?_
  simp [Array.count_replicate]
end
end Go.Proofs.Ytobfanodjdkkoaa
end

section
/- What follows of a history (order.Of): the object that holds it. No condition but each theorem's own. -/
set_option linter.unusedVariables false
set_option linter.unusedSimpArgs false
namespace Go.Proofs.Ytobfanodjdkkoaa
open Go.RowKit Go.Maps

/-- The object's cells. -/
def ordF (n : Int) (S T F : Nat → Nat) (m ks rs : Value) (b : Bool) (i : Nat) : Value :=
  if i = 0 then .int .i64 n else if i < 65 then .int .u64 (S (i - 1)) else if i < 129 then .int .u64 (T (i - 65)) else if i < 193 then .int .u64 (F (i - 129)) else if i = 193 then m else if i = 194 then ks else if i = 195 then rs else .bool b
def ordC (n : Int) (S T F : Nat → Nat) (m ks rs : Value) (b : Bool) : Array Value := arrOf 197 (ordF n S T F m ks rs b)
theorem ordC_built (n : Int) (gm k1 c1 k2 c2 : Nat) (A1 A2 : Option Addr) : Try.prog.built 56 [(0, .int .i64 n), (4, .map (some gm)), (5, .slice A1 k1 c1), (6, .slice A2 k2 c2), (7, .bool true)] = some (ordC n (fun _ => 0) (fun _ => 0) (fun _ => 0) (.map (some gm)) (.slice A1 k1 c1) (.slice A2 k2 c2) true) := by kernel_rfl
theorem eval_of {a : Act} {s : Nat} {v : Value} (h : a.tmps[s]? = some v) : a.eval (.tmp s) = v := by
  unfold Act.eval
  simp [h]
/-- What the operations of the composite literal yield. -/
def lit5 (w0 : World) (n : Nat) (h : Value) : Nat → Value → World → Prop
  | 0 => fun v _ => v = h
  | 1 => fun v _ => v = .int .i64 n
  | 2 => fun v w => ∃ gm, v = .map (some gm) ∧ w0.heap.size ≤ gm ∧ IMap Try.prog 3 w gm 0 fun _ => none
  | 3 => fun v _ => v = h
  | 4 => fun v _ => v = .int .i64 n
  | 5 => fun v w => ∃ A c, v = .slice A n c ∧ w.ownsRow w0.heap.size 65 1 (.slice A n c) n (List.replicate n (.slice none 0 0))
  | 6 => fun v _ => v = h
  | 7 => fun v _ => v = .int .i64 n
  | 8 => fun v w => ∃ A c, v = .slice A n c ∧ w.ownsRow w0.heap.size 61 1 (.slice A n c) n (List.replicate n (.slice none 0 0))
  | 9 => fun v w => ∃ gm A1 c1 A2 c2, v = .agg (ordC n (fun _ => 0) (fun _ => 0) (fun _ => 0) (.map (some gm)) (.slice A1 n c1) (.slice A2 n c2) true) ∧ w0.heap.size ≤ gm ∧ IMap Try.prog 3 w gm 0 (fun _ => none) ∧ w.ownsRow w0.heap.size 65 1 (.slice A1 n c1) n (List.replicate n (.slice none 0 0)) ∧ w.ownsRow w0.heap.size 61 1 (.slice A2 n c2) n (List.replicate n (.slice none 0 0))
  | _ => fun v w => ∃ go gm A1 c1 A2 c2, v = .pointer (some ⟨go, 0, none⟩) ∧ w0.heap.size ≤ go ∧ Blk w go (ordC n (fun _ => 0) (fun _ => 0) (fun _ => 0) (.map (some gm)) (.slice A1 n c1) (.slice A2 n c2) true) 56 ∧ w0.heap.size ≤ gm ∧ IMap Try.prog 3 w gm 0 (fun _ => none) ∧ w.ownsRow w0.heap.size 65 1 (.slice A1 n c1) n (List.replicate n (.slice none 0 0)) ∧ w.ownsRow w0.heap.size 61 1 (.slice A2 n c2) n (List.replicate n (.slice none 0 0))
theorem row_keep {w w' : World} {base e size n : Nat} {v : Value} {xs : List Value} (h : w.ownsRow base e size v n xs) (hc : Ch nob w w') : w'.ownsRow base e size v n xs := h.kept (grown_of_ch hc none) (by cases hv : v.ownBlock with | none => exact .inl rfl | some b => exact .inr (by simp))
theorem lit5_stable (w0 : World) (n : Nat) (h : Value) (i : Nat) (v : Value) (w w' : World) (hr : lit5 w0 n h i v w) (hc : Ch nob w w') : lit5 w0 n h i v w' := by
  match i with
  | 0 | 1 | 3 | 4 | 6 | 7 => exact hr
  | 2 =>
    obtain ⟨gm, h1, h2, h3⟩ := hr
    exact ⟨gm, h1, h2, h3.keep hc⟩
  | 5 | 8 =>
    obtain ⟨A, c, h1, h2⟩ := hr
    exact ⟨A, c, h1, row_keep h2 hc⟩
  | 9 =>
    obtain ⟨gm, A1, c1, A2, c2, h1, h2, h3, h4, h5⟩ := hr
    exact ⟨gm, A1, c1, A2, c2, h1, h2, h3.keep hc, row_keep h4 hc, row_keep h5 hc⟩
  | i + 10 =>
    obtain ⟨go, gm, A1, c1, A2, c2, h1, h2, h3, h4, h5, h6, h7⟩ := hr
    exact ⟨go, gm, A1, c1, A2, c2, h1, h2, h3.ch hc (fun h => h), h4, h5.keep hc, row_keep h6 hc, row_keep h7 hc⟩
theorem yield_run {P : Program} {ops : Array Oper} {o : Oper} {a : Act} {w w' : World} {v : Value} {K : Act → World → Prop} {Q : Exit → Act → World → Prop} (hg : o.guard = none) (hrun : (execOp a.eval o).run P w = .ok (.value v) w') (h : K (a.put o.dst v) w') : wpList P ops (Exit.then K Q) [o] a w :=
  wpList_plain hg fun K' hK' => by
    unfold Oper.wp
    rw [hrun]
    exact hK' _ _ h
theorem elem_ints : ElemOK Try.prog 53 65 (.slice none 0 0) 1 24 := ⟨by kernel_rfl, by kernel_rfl⟩
theorem elem_reads : ElemOK Try.prog 54 61 (.slice none 0 0) 1 24 := ⟨by kernel_rfl, by kernel_rfl⟩
theorem ch_of_grown_none2 {w w' : World} (h : w.grownBy w' none) : Ch nob w w' := ⟨h.os, h.tape, h.output, h.size, fun k hk _ => h.block k hk (by simp)⟩
end Go.Proofs.Ytobfanodjdkkoaa
end

section
/- The object that holds what follows of a history: its cells, its rows, its map. No condition but each theorem's own. -/
set_option linter.unusedVariables false
set_option linter.unusedSimpArgs false
namespace Go.Proofs.Ytobfanodjdkkoaa
open Go.RowKit Go.Maps

def setL (C : Array Value) : Nat → List Value → Array Value
  | _, [] => C
  | o, v :: r => setL (C.setIfInBounds o v) (o + 1) r
theorem Blk.setCells {g : Nat} {T : TypeId} : ∀ {vs : List Value} {o : Nat} {C : Array Value} {w : World}, Blk w g C T → Blk (w.setCells g o vs) g (setL C o vs) T
  | [], _, _, _, h => h
  | v :: r, o, C, w, h => Blk.setCells (vs := r) (h.set o v)
theorem Ch.setCells {g : Nat} : ∀ {vs : List Value} {o : Nat} {w w0 : World}, Ch (· = g) w0 w → Ch (· = g) w0 (w.setCells g o vs)
  | [], _, _, _, h => h
  | v :: r, o, w, w0, h => Ch.setCells (vs := r) (h.setCell _ _ (fun _ => rfl))
theorem setL_arrOf (N : Nat) : ∀ (vs : List Value) (o : Nat) (f : Nat → Value), setL (arrOf N f) o vs = arrOf N fun i => if o ≤ i ∧ i < o + vs.length then vs.getD (i - o) undef else f i
  | [], o, f => by
    unfold setL
    refine arrOf_ext fun i _ => ?_
    rw [if_neg (by simp)]
  | v :: r, o, f => by
    unfold setL
    rw [arrOf_set, setL_arrOf N r (o + 1)]
    refine arrOf_ext fun i _ => ?_
    by_cases h1 : o + 1 ≤ i ∧ i < o + 1 + r.length
    · rw [if_pos h1, if_pos (by simp; omega), show i - o = (i - (o + 1)) + 1 by omega]
      rfl
    · rw [if_neg h1]
      by_cases h2 : i = o
      · subst h2
        rw [if_pos rfl, if_pos (by simp), Nat.sub_self]
        rfl
      · rw [if_neg h2, if_neg (by simp; omega)]
theorem rel_getD (R : Nat → Nat) (i : Nat) (hi : i < 64) : (relArr R).toList.getD i undef = .int .u64 (R i) := by
  rw [List.getD_eq_getElem?_getD, Array.getElem?_toList, show (relArr R)[i]? = some (.int .u64 (R i)) from arrOf_get _ _ _ hi]
  rfl
theorem rel_len (R : Nat → Nat) : (relArr R).toList.length = 64 := by rw [Array.length_toList]; exact relArr_size R
section
variable (n : Int) (S T F : Nat → Nat) (m ks rs : Value) (b : Bool) (i : Nat)
theorem ordF_S (h : 1 ≤ i ∧ i < 65) : ordF n S T F m ks rs b i = .int .u64 (S (i - 1)) := by unfold ordF; rw [if_neg (by omega), if_pos (by omega)]
theorem ordF_T (h : 65 ≤ i ∧ i < 129) : ordF n S T F m ks rs b i = .int .u64 (T (i - 65)) := by unfold ordF; rw [if_neg (by omega), if_neg (by omega), if_pos (by omega)]
theorem ordF_F (h : 129 ≤ i ∧ i < 193) : ordF n S T F m ks rs b i = .int .u64 (F (i - 129)) := by unfold ordF; rw [if_neg (by omega), if_neg (by omega), if_neg (by omega), if_pos (by omega)]
theorem ordF_end (h : 196 ≤ i) : ordF n S T F m ks rs b i = .bool b := by unfold ordF; rw [if_neg (by omega), if_neg (by omega), if_neg (by omega), if_neg (by omega), if_neg (by omega), if_neg (by omega), if_neg (by omega)]
end
theorem ord_cases (i : Nat) : i = 0 ∨ (1 ≤ i ∧ i < 65) ∨ (65 ≤ i ∧ i < 129) ∨ (129 ≤ i ∧ i < 193) ∨ i = 193 ∨ i = 194 ∨ i = 195 ∨ 196 ≤ i := by omega
theorem ordC_session (n : Int) (S T F R : Nat → Nat) (m ks rs : Value) (b : Bool) : setL (ordC n S T F m ks rs b) 1 (relArr R).toList = ordC n R T F m ks rs b := by
  unfold ordC
  rw [setL_arrOf, rel_len]
  refine arrOf_ext fun i hi => ?_
  rcases ord_cases i with h | h | h | h | h | h | h | h
  · subst h; rfl
  · rw [if_pos (by omega), rel_getD _ _ (by omega), ordF_S _ _ _ _ _ _ _ _ _ h]
  · rw [if_neg (by omega), ordF_T _ _ _ _ _ _ _ _ _ h, ordF_T _ _ _ _ _ _ _ _ _ h]
  · rw [if_neg (by omega), ordF_F _ _ _ _ _ _ _ _ _ h, ordF_F _ _ _ _ _ _ _ _ _ h]
  · subst h; rfl
  · subst h; rfl
  · subst h; rfl
  · rw [if_neg (by omega), ordF_end _ _ _ _ _ _ _ _ _ h, ordF_end _ _ _ _ _ _ _ _ _ h]
theorem ordC_time (n : Int) (S T F R : Nat → Nat) (m ks rs : Value) (b : Bool) : setL (ordC n S T F m ks rs b) 65 (relArr R).toList = ordC n S R F m ks rs b := by
  unfold ordC
  rw [setL_arrOf, rel_len]
  refine arrOf_ext fun i hi => ?_
  rcases ord_cases i with h | h | h | h | h | h | h | h
  · subst h; rfl
  · rw [if_neg (by omega), ordF_S _ _ _ _ _ _ _ _ _ h, ordF_S _ _ _ _ _ _ _ _ _ h]
  · rw [if_pos (by omega), rel_getD _ _ (by omega), ordF_T _ _ _ _ _ _ _ _ _ h]
  · rw [if_neg (by omega), ordF_F _ _ _ _ _ _ _ _ _ h, ordF_F _ _ _ _ _ _ _ _ _ h]
  · subst h; rfl
  · subst h; rfl
  · subst h; rfl
  · rw [if_neg (by omega), ordF_end _ _ _ _ _ _ _ _ _ h, ordF_end _ _ _ _ _ _ _ _ _ h]
theorem ordC_at (n : Int) (S T F : Nat → Nat) (m ks rs : Value) (b : Bool) (i : Nat) (hi : i < 197) : (ordC n S T F m ks rs b)[i]? = some (ordF n S T F m ks rs b i) := arrOf_get _ _ _ hi
theorem ord_there {w : World} {go : Nat} {n : Int} {S T F : Nat → Nat} {m ks rs : Value} {b : Bool} {X : TypeId} (h : Blk w go (ordC n S T F m ks rs b) X) (o k : Nat) (hk : o + k ≤ 197) : w.there go o k := fun j hj => by
  refine ⟨?_, h.free _⟩
  rw [h.cell (ordC_at n S T F m ks rs b (o + j) (by omega))]
  rfl
theorem ord_session {w : World} {go : Nat} {n : Int} {S T F : Nat → Nat} {m ks rs : Value} {b : Bool} {X : TypeId} (h : Blk w go (ordC n S T F m ks rs b) X) : w.rangeAt go 1 (relArr S).toList := fun j v hv => by
  have hj : j < 64 := by rw [← rel_len S]; exact (List.getElem?_eq_some_iff.1 hv).1
  rw [h.cell (ordC_at n S T F m ks rs b (1 + j) (by omega))]
  rw [Array.getElem?_toList, show (relArr S)[j]? = some (.int .u64 (S j)) from arrOf_get _ _ _ hj] at hv
  cases hv
  unfold ordF
  rw [if_neg (by omega), if_pos (by omega), show 1 + j - 1 = j by omega]
theorem ord_time {w : World} {go : Nat} {n : Int} {S T F : Nat → Nat} {m ks rs : Value} {b : Bool} {X : TypeId} (h : Blk w go (ordC n S T F m ks rs b) X) : w.rangeAt go 65 (relArr T).toList := fun j v hv => by
  have hj : j < 64 := by rw [← rel_len T]; exact (List.getElem?_eq_some_iff.1 hv).1
  rw [h.cell (ordC_at n S T F m ks rs b (65 + j) (by omega))]
  rw [Array.getElem?_toList, show (relArr T)[j]? = some (.int .u64 (T j)) from arrOf_get _ _ _ hj] at hv
  cases hv
  unfold ordF
  rw [if_neg (by omega), if_neg (by omega), if_pos (by omega), show 65 + j - 65 = j by omega]
theorem ord_from {w : World} {go : Nat} {n : Int} {S T F : Nat → Nat} {m ks rs : Value} {b : Bool} {X : TypeId} (h : Blk w go (ordC n S T F m ks rs b) X) : w.rangeAt go 129 (relArr F).toList := fun j v hv => by
  have hj : j < 64 := by rw [← rel_len F]; exact (List.getElem?_eq_some_iff.1 hv).1
  rw [h.cell (ordC_at n S T F m ks rs b (129 + j) (by omega))]
  rw [Array.getElem?_toList, show (relArr F)[j]? = some (.int .u64 (F j)) from arrOf_get _ _ _ hj] at hv
  cases hv
  unfold ordF
  rw [if_neg (by omega), if_neg (by omega), if_neg (by omega), if_pos (by omega), show 129 + j - 129 = j by omega]
/-- Single cells. -/
theorem ord_n {w : World} {go : Nat} {n : Int} {S T F : Nat → Nat} {m ks rs : Value} {b : Bool} {X : TypeId} (h : Blk w go (ordC n S T F m ks rs b) X) : w.cell? ⟨go, 0, none⟩ = some (.int .i64 n) := h.cell (ordC_at n S T F m ks rs b 0 (by omega))
theorem ord_map {w : World} {go : Nat} {n : Int} {S T F : Nat → Nat} {m ks rs : Value} {b : Bool} {X : TypeId} (h : Blk w go (ordC n S T F m ks rs b) X) : w.cell? ⟨go, 193, none⟩ = some m := h.cell (ordC_at n S T F m ks rs b 193 (by omega))
theorem ord_keys {w : World} {go : Nat} {n : Int} {S T F : Nat → Nat} {m ks rs : Value} {b : Bool} {X : TypeId} (h : Blk w go (ordC n S T F m ks rs b) X) : w.cell? ⟨go, 194, none⟩ = some ks := h.cell (ordC_at n S T F m ks rs b 194 (by omega))
theorem ord_reads {w : World} {go : Nat} {n : Int} {S T F : Nat → Nat} {m ks rs : Value} {b : Bool} {X : TypeId} (h : Blk w go (ordC n S T F m ks rs b) X) : w.cell? ⟨go, 195, none⟩ = some rs := h.cell (ordC_at n S T F m ks rs b 195 (by omega))
theorem ord_sound {w : World} {go : Nat} {n : Int} {S T F : Nat → Nat} {m ks rs : Value} {b : Bool} {X : TypeId} (h : Blk w go (ordC n S T F m ks rs b) X) : w.cell? ⟨go, 196, none⟩ = some (.bool b) := h.cell (ordC_at n S T F m ks rs b 196 (by omega))
theorem ordC_sound (n : Int) (S T F : Nat → Nat) (m ks rs : Value) (b c : Bool) : (ordC n S T F m ks rs b).setIfInBounds 196 (.bool c) = ordC n S T F m ks rs c := by
  unfold ordC
  rw [arrOf_set]
  refine arrOf_ext fun i hi => ?_
  rcases ord_cases i with h | h | h | h | h | h | h | h
  · subst h; rfl
  · rw [if_neg (by omega), ordF_S _ _ _ _ _ _ _ _ _ h, ordF_S _ _ _ _ _ _ _ _ _ h]
  · rw [if_neg (by omega), ordF_T _ _ _ _ _ _ _ _ _ h, ordF_T _ _ _ _ _ _ _ _ _ h]
  · rw [if_neg (by omega), ordF_F _ _ _ _ _ _ _ _ _ h, ordF_F _ _ _ _ _ _ _ _ _ h]
  · subst h; rfl
  · subst h; rfl
  · subst h; rfl
  · rw [if_pos (by omega), ordF_end _ _ _ _ _ _ _ _ _ h]
theorem ordC_from (n : Int) (S T F : Nat → Nat) (m ks rs : Value) (b : Bool) (a s : Nat) (ha : a < 64) : (ordC n S T F m ks rs b).setIfInBounds (129 + a) (.int .u64 s) = ordC n S T (rowSet F a s) m ks rs b := by
  unfold ordC
  rw [arrOf_set]
  refine arrOf_ext fun i hi => ?_
  rcases ord_cases i with h | h | h | h | h | h | h | h
  · subst h; rw [if_neg (by omega)]; rfl
  · rw [if_neg (by omega), ordF_S _ _ _ _ _ _ _ _ _ h, ordF_S _ _ _ _ _ _ _ _ _ h]
  · rw [if_neg (by omega), ordF_T _ _ _ _ _ _ _ _ _ h, ordF_T _ _ _ _ _ _ _ _ _ h]
  · rw [ordF_F _ _ _ _ _ _ _ _ _ h, ordF_F _ _ _ _ _ _ _ _ _ h]
    unfold rowSet
    by_cases e : i = 129 + a
    · rw [if_pos e, if_pos (by omega)]
    · rw [if_neg e, if_neg (by omega)]
  · subst h; rw [if_neg (by omega)]; rfl
  · subst h; rw [if_neg (by omega)]; rfl
  · subst h; rw [if_neg (by omega)]; rfl
  · rw [if_neg (by omega), ordF_end _ _ _ _ _ _ _ _ _ h, ordF_end _ _ _ _ _ _ _ _ _ h]
end Go.Proofs.Ytobfanodjdkkoaa
end

section
/- A pair added to a relation that lies within the object (rel.Add at From). No condition but each theorem's own. -/
set_option linter.unusedVariables false
set_option linter.unusedSimpArgs false
namespace Go.Proofs.Ytobfanodjdkkoaa
open Go.RowKit Go.Maps

theorem mid_add (g o k : Nat) : (⟨g, o, none⟩ : Addr).add k = ⟨g, o + k, none⟩ := by unfold Addr.add; split <;> simp_all
set_option maxRecDepth 100000 in
set_option maxHeartbeats 2000000 in
theorem add_from (w : World) (go : Nat) (N : Int) (S T F : Nat → Nat) (m ks rs : Value) (d : Bool) (X : TypeId) (ok : RelOK F) (a b : Int) (hb : Blk w go (ordC N S T F m ks rs d) X) :
    Calls Try.prog 73 #[.pointer (some ⟨go, 129, none⟩), .int .i64 a, .int .i64 b] w fun e w' => e = .returned (.bool (inS a && inS b)) ∧ Blk w' go (ordC N S T (addR F a b) m ks rs d) X ∧ Ch (· = go) w w' := by
  by_cases h : (0 ≤ a ∧ a < 64) ∧ (0 ≤ b ∧ b < 64)
  · obtain ⟨⟨h0, h1⟩, h2, h3⟩ := h
    obtain ⟨n, rfl⟩ := Int.eq_ofNat_of_zero_le h0
    have hx : w.cell? ((⟨go, 129, none⟩ : Addr).add n) = some (.int .u64 (F n)) := by
      rw [mid_add, hb.cell (ordC_at N S T F m ks rs d (129 + n) (by omega)), ordF_F _ _ _ _ _ _ _ _ _ (by omega), show 129 + n - 129 = n by omega]
    have hf : w.frozen? ((⟨go, 129, none⟩ : Addr).add n) = false := by rw [mid_add]; exact hb.free _
    have hlt := ok n
    have d1 : decide ((n : Int) < 0) = false := decide_eq_false (by omega)
    have d2 : decide ((64 : Int) ≤ (n : Int)) = false := decide_eq_false (by omega)
    have d3 : decide (b < 0) = false := decide_eq_false (by omega)
    have d4 : decide (64 ≤ b) = false := decide_eq_false (by omega)
    have hin : (inS (n : Int) && inS b) = true := by unfold inS; rw [decide_eq_true (by omega), decide_eq_true (by omega)]; rfl
    have HB := hb.set (129 + n) (.int .u64 (withS (F n) b : Nat))
    rw [ordC_from _ _ _ _ _ _ _ _ _ _ (by omega)] at HB
    have HE := Lib.hid (show addR F (n : Int) b = rowSet F n (withS (F n) b) from by unfold addR; rw [hin]; rfl)
    rw [← HE.out, ← mid_add] at HB
    have hch : Ch (· = go) w (w.setCell ((⟨go, 129, none⟩ : Addr).add n) (.int .u64 (withS (F n) b : Nat))) := (Ch.refl _ _).setCell _ _ (fun _ => by rw [mid_add])
    have HI := Lib.hid hin
    obtain ⟨s, hs⟩ : ∃ s, F n = s := ⟨_, rfl⟩
    rw [hs] at hx hlt HB hch
    obtain ⟨ad, had⟩ : ∃ ad, (⟨go, 129, none⟩ : Addr) = ad := ⟨_, rfl⟩
    rw [had] at hx hf HB hch ⊢
    clear hb hin hs had
    go_enter Try.func73, Try.ntmps73
    go_wp2_with fail
    go_region_with (go_at_call 53; refine (with_set s b _ hlt).mono ?_; rintro e w2 ⟨rfl, rfl⟩)
    all_goals
      go_wp2_with fail
      go_ret
      exact ⟨ret_bool HI.out.symm, HB.drew, hch.drew⟩
  · have hin : (inS a && inS b) = false := by
      unfold inS
      rw [Bool.and_eq_false_iff, decide_eq_false_iff_not, decide_eq_false_iff_not]
      omega
    have HI := Lib.hid hin
    have hb2 : Blk w go (ordC N S T (addR F a b) m ks rs d) X := by unfold addR; rw [hin]; exact hb
    clear hb hin ok
    have hways : a < 0 ∨ (0 ≤ a ∧ 64 ≤ a) ∨ (0 ≤ a ∧ a < 64 ∧ b < 0) ∨ (0 ≤ a ∧ a < 64 ∧ 0 ≤ b ∧ 64 ≤ b) := by omega
    clear h
    rcases hways with h | ⟨h1, h2⟩ | ⟨h1, h2, h3⟩ | ⟨h1, h2, h3, h4⟩
    · have d1 : decide (a < 0) = true := decide_eq_true (by omega)
      go_enter Try.func73, Try.ntmps73
      go_wp2_with fail
      go_ret
      exact ⟨ret_bool HI.out.symm, hb2, Ch.refl _ _⟩
    · have d1 : decide (a < 0) = false := decide_eq_false (by omega)
      have d2 : decide ((64 : Int) ≤ a) = true := decide_eq_true (by omega)
      go_enter Try.func73, Try.ntmps73
      go_wp2_with fail
      go_ret
      exact ⟨ret_bool HI.out.symm, hb2, Ch.refl _ _⟩
    · have d1 : decide (a < 0) = false := decide_eq_false (by omega)
      have d2 : decide ((64 : Int) ≤ a) = false := decide_eq_false (by omega)
      have d3 : decide (b < 0) = true := decide_eq_true (by omega)
      go_enter Try.func73, Try.ntmps73
      go_wp2_with fail
      go_ret
      exact ⟨ret_bool HI.out.symm, hb2, Ch.refl _ _⟩
    · have d1 : decide (a < 0) = false := decide_eq_false (by omega)
      have d2 : decide ((64 : Int) ≤ a) = false := decide_eq_false (by omega)
      have d3 : decide (b < 0) = false := decide_eq_false (by omega)
      have d4 : decide (64 ≤ b) = true := decide_eq_true (by omega)
      go_enter Try.func73, Try.ntmps73
      go_wp2_with fail
      go_ret
      exact ⟨ret_bool HI.out.symm, hb2, Ch.refl _ _⟩
end Go.Proofs.Ytobfanodjdkkoaa
end

section
/- The object that holds what follows of a history, whole: its rows and its map apart. No condition but each theorem's own. -/
set_option linter.unusedVariables false
set_option linter.unusedSimpArgs false
namespace Go.Proofs.Ytobfanodjdkkoaa
open Go.RowKit Go.Maps

theorem row_blk_ne {w : World} {base e size n g : Nat} {v : Value} {xs : List Value} {C : Array Value} {T : TypeId} (h : w.ownsRow base e size v n xs) (hb : Blk w g C T) (hne : e ≠ T) : v.ownBlock ≠ some g := by
  rcases h.2 with ⟨hv, _⟩ | ⟨g2, _, _, hv, _, hg, _⟩
  · rw [hv]; intro e2; cases e2
  · rw [hv]
    intro e2
    have e3 : g2 = g := by simpa [Value.ownBlock] using e2
    have hb' : w.heap[g]? = some (.cells C T (0, 0)) := hb
    rw [e3, hb'] at hg
    simp at hg
    exact hne hg.2.symm
theorem row_row_ne {w : World} {b1 b2 e1 e2 s1 s2 n m : Nat} {v u : Value} {xs ys : List Value} (h : w.ownsRow b1 e1 s1 v n xs) (k : w.ownsRow b2 e2 s2 u m ys) (hne : e1 ≠ e2) (b : Nat) (hb : v.ownBlock = some b) : u.ownBlock ≠ some b := by
  rcases h.2 with ⟨hv, _⟩ | ⟨g, _, _, hv, _, hg, _⟩
  · rw [hv] at hb; cases hb
  · rw [hv] at hb
    have e : g = b := by simpa [Value.ownBlock] using hb
    rw [e] at hg
    exact row_blk_ne k (T := e1) hg (Ne.symm hne)
theorem row_map_ne {P : Program} {K : TypeId} {w : World} {base e size n b c : Nat} {v : Value} {xs : List Value} {f : Int → Option Value} (h : w.ownsRow base e size v n xs) (hm : IMap P K w b c f) : v.ownBlock ≠ some b := by
  obtain ⟨D, ⟨es, clock, hb, _⟩, _⟩ := hm
  rcases h.2 with ⟨hv, _⟩ | ⟨g, _, _, hv, _, hg, _⟩
  · rw [hv]; intro e2; cases e2
  · rw [hv]
    intro e2
    have e3 : g = b := by simpa [Value.ownBlock] using e2
    rw [e3, hb] at hg
    simp at hg
theorem blk_map_ne {P : Program} {K : TypeId} {w : World} {g b c : Nat} {C : Array Value} {T : TypeId} {f : Int → Option Value} (h : Blk w g C T) (hm : IMap P K w b c f) : g ≠ b := by
  obtain ⟨D, ⟨es, clock, hb, _⟩, _⟩ := hm
  intro e
  have h' : w.heap[g]? = some (.cells C T (0, 0)) := h
  rw [e, hb] at h'
  simp at h'
/-- What a transaction reads: keys, and of which transaction; as cells. -/
def flatR : List (Int × Int) → List Value
  | [] => []
  | p :: l => .int .i64 p.1 :: .int .i64 p.2 :: flatR l
theorem flatR_len (l : List (Int × Int)) : (flatR l).length = l.length * 2 := by
  induction l with
  | nil => rfl
  | cons p l ih => simp only [flatR, List.length_cons, ih]; omega
theorem flatR_append (a b : List (Int × Int)) : flatR (a ++ b) = flatR a ++ flatR b := by
  induction a with
  | nil => rfl
  | cons p l ih => simp only [List.cons_append, flatR, ih]
def OwnR (w : World) (base : Nat) (v : Value) (xs : List (Int × Int)) : Prop := w.ownsRow base 63 2 v xs.length (flatR xs)
/-- A map of sets. -/
def setF (f : Int → Option Nat) : Int → Option Value := fun k => (f k).map fun s => .int .u64 (s : Nat)
/-- The object, whole. -/
structure Ords (w : World) (base go gm c n : Nat) (S T F : Nat → Nat) (f : Int → Option Nat) (A1 : Option Addr) (c1 : Nat) (A2 : Option Addr) (c2 : Nat) (KV RV : Nat → Value) (ks : Nat → List Int) (rs : Nat → List (Int × Int)) (snd : Bool) : Prop where
  ge : base ≤ go ∧ base ≤ gm
  blk : Blk w go (ordC n S T F (.map (some gm)) (.slice A1 n c1) (.slice A2 n c2) snd) 56
  map : IMap Try.prog 3 w gm c (setF f)
  krow : w.ownsRow base 65 1 (.slice A1 n c1) n ((List.range n).map KV)
  rrow : w.ownsRow base 61 1 (.slice A2 n c2) n ((List.range n).map RV)
  kv : ∀ i, i < n → OwnK .i64 w base 3 (KV i) (ks i)
  rv : ∀ i, i < n → OwnR w base (RV i) (rs i)
  kap : ∀ i j, i < n → j < n → i ≠ j → ∀ b, (KV i).ownBlock = some b → (KV j).ownBlock ≠ some b
  rap : ∀ i j, i < n → j < n → i ≠ j → ∀ b, (RV i).ownBlock = some b → (RV j).ownBlock ≠ some b
section
variable {w w' : World} {base go gm c n : Nat} {S T F : Nat → Nat} {f : Int → Option Nat} {A1 A2 : Option Addr} {c1 c2 : Nat} {KV RV : Nat → Value} {ks : Nat → List Int} {rs : Nat → List (Int × Int)} {snd : Bool}
theorem row_other {base e size n g : Nat} {v : Value} {xs : List Value} (h : w.ownsRow base e size v n xs) (hc : Ch (· = g) w w') (hn : v.ownBlock ≠ some g) : w'.ownsRow base e size v n xs :=
  h.kept (grown_of_ch1 hc) (.inr hn)
theorem Ords.keep (h : Ords w base go gm c n S T F f A1 c1 A2 c2 KV RV ks rs snd) (hc : Ch nob w w') : Ords w' base go gm c n S T F f A1 c1 A2 c2 KV RV ks rs snd :=
  ⟨h.ge, h.blk.ch hc (fun h => h), h.map.keep hc, row_keep h.krow hc, row_keep h.rrow hc, fun i hi => (h.kv i hi).keep hc, fun i hi => row_keep (h.rv i hi) hc, h.kap, h.rap⟩
/-- The object's own cells are written. -/
theorem Ords.obj {S2 T2 F2 : Nat → Nat} {snd2 : Bool} (h : Ords w base go gm c n S T F f A1 c1 A2 c2 KV RV ks rs snd) (hc : Ch (· = go) w w') (hb : Blk w' go (ordC n S2 T2 F2 (.map (some gm)) (.slice A1 n c1) (.slice A2 n c2) snd2) 56) : Ords w' base go gm c n S2 T2 F2 f A1 c1 A2 c2 KV RV ks rs snd2 :=
  ⟨h.ge, hb, h.map.ch hc (fun e => blk_map_ne h.blk h.map (show gm = go from e).symm), row_other h.krow hc (row_blk_ne h.krow h.blk (by decide)), row_other h.rrow hc (row_blk_ne h.rrow h.blk (by decide)),
    fun i hi => row_other (h.kv i hi) hc (row_blk_ne (h.kv i hi) h.blk (by decide)), fun i hi => row_other (h.rv i hi) hc (row_blk_ne (h.rv i hi) h.blk (by decide)), h.kap, h.rap⟩
/-- The map is written. -/
theorem Ords.put {c3 : Nat} {f2 : Int → Option Nat} (h : Ords w base go gm c n S T F f A1 c1 A2 c2 KV RV ks rs snd) (hc : Ch (· = gm) w w') (hm : IMap Try.prog 3 w' gm c3 (setF f2)) : Ords w' base go gm c3 n S T F f2 A1 c1 A2 c2 KV RV ks rs snd :=
  ⟨h.ge, h.blk.ch hc (fun e => blk_map_ne h.blk h.map (show go = gm from e)), hm, row_other h.krow hc (row_map_ne h.krow h.map), row_other h.rrow hc (row_map_ne h.rrow h.map),
    fun i hi => row_other (h.kv i hi) hc (row_map_ne (h.kv i hi) h.map), fun i hi => row_other (h.rv i hi) hc (row_map_ne (h.rv i hi) h.map), h.kap, h.rap⟩
theorem map_set (n i : Nat) (V : Nat → Value) (u : Value) : ((List.range n).map V).set i u = (List.range n).map fun j => if j = i then u else V j := by
  apply List.ext_getElem
  · simp
  · intro j h1 h2
    simp only [List.getElem_set, List.getElem_map, List.getElem_range]
    by_cases e : i = j
    · simp [e]
    · simp [e, Ne.symm e]
/-- A row of keys has grown, and stands in its place. -/
theorem Ords.kpush {w2 : World} {i g : Nat} {u : Value} {k : Int} (h : Ords w base go gm c n S T F f (some ⟨g, 0, none⟩) c1 A2 c2 KV RV ks rs snd) (hi : i < n) (hg : w.grownBy w' (KV i).ownBlock) (hu : OwnK .i64 w' base 3 u (ks i ++ [k])) (hnew : ∀ b, u.ownBlock = some b → (KV i).ownBlock = some b ∨ w.heap.size ≤ b) (h2 : w2 = w'.setCell ⟨g, i, none⟩ u) :
    Ords w2 base go gm c n S T F f (some ⟨g, 0, none⟩) c1 A2 c2 (fun j => if j = i then u else KV j) RV (fun j => if j = i then ks i ++ [k] else ks j) rs snd := by
  have hkr := h.krow.kept hg (.inr (fun e => by
    have := row_row_ne h.krow (h.kv i hi) (by decide) g rfl
    exact this e.symm))
  have hcs : Ch (· = g) w' w2 := by rw [h2]; exact (Ch.refl _ _).setCell _ _ (fun _ => rfl)
  have hst := (World.ownsRow.stored hkr i u).1
  rw [map_set, ← h2] at hst
  have other : ∀ {e size m : Nat} {v : Value} {xs : List Value}, w.ownsRow base e size v m xs → e ≠ 3 → e ≠ 65 → w2.ownsRow base e size v m xs := fun {e size m v xs} hr h1 h3 => by
    have hr2 := hr.kept hg (by
      cases hb : (KV i).ownBlock with
      | none => cases hv : v.ownBlock with
        | none => exact .inl rfl
        | some b => exact .inr (by simp)
      | some b => exact .inr (row_row_ne (h.kv i hi) hr (Ne.symm h1) b hb))
    exact row_other hr2 hcs (row_row_ne hkr hr2 (Ne.symm h3) g rfl)
  have hb' : Blk w' go (ordC n S T F (.map (some gm)) (.slice (some ⟨g, 0, none⟩) n c1) (.slice A2 n c2) snd) 56 := h.blk.grown hg (row_blk_ne (h.kv i hi) h.blk (by decide))
  have hm' : IMap Try.prog 3 w' gm c (setF f) := h.map.ch (Ch.toGrown hg) (row_map_ne (h.kv i hi) h.map)
  refine ⟨h.ge, hb'.ch hcs (fun e => ?_), hm'.ch hcs (fun e => ?_), hst, other h.rrow (by decide) (by decide), fun j hj => ?_, fun j hj => other (h.rv j hj) (by decide) (by decide), fun a b ha hb hne q hq => ?_, h.rap⟩
  · have e' : go = g := e
    rw [e'] at hb'
    exact row_blk_ne hkr hb' (by decide) rfl
  · have e' : gm = g := e
    rw [e'] at hm'
    exact row_map_ne hkr hm' rfl
  · by_cases e : j = i
    · rw [if_pos e, if_pos e]
      exact row_other hu hcs (row_row_ne hkr hu (by decide) g rfl)
    · rw [if_neg e, if_neg e]
      have h3 : OwnK .i64 w' base 3 (KV j) (ks j) := (h.kv j hj).grown hg (fun b hb e2 => h.kap j i hj hi e b hb e2)
      exact row_other h3 hcs (row_row_ne hkr h3 (by decide) g rfl)
  · have hq : (if a = i then u else KV a).ownBlock = some q := hq
    show (if b = i then u else KV b).ownBlock ≠ some q
    by_cases e1 : a = i
    · rw [if_pos e1] at hq
      by_cases e2 : b = i
      · omega
      · rw [if_neg e2]
        intro h3
        rcases hnew q hq with h4 | h4
        · exact h.kap i b hi hb (Ne.symm e2) q h4 h3
        · have := ((h.kv b hb).ge q h3).2; omega
    · rw [if_neg e1] at hq
      by_cases e2 : b = i
      · rw [if_pos e2]
        intro h3
        rcases hnew q h3 with h4 | h4
        · exact h.kap a i ha hi e1 q hq h4
        · have := ((h.kv a ha).ge q hq).2; omega
      · rw [if_neg e2]
        exact h.kap a b ha hb hne q hq
/-- A row of reads has grown, and stands in its place. -/
theorem Ords.rpush {w2 : World} {i g : Nat} {u : Value} {k : Int × Int} (h : Ords w base go gm c n S T F f A1 c1 (some ⟨g, 0, none⟩) c2 KV RV ks rs snd) (hi : i < n) (hg : w.grownBy w' (RV i).ownBlock) (hu : OwnR w' base u (rs i ++ [k])) (hnew : ∀ b, u.ownBlock = some b → (RV i).ownBlock = some b ∨ w.heap.size ≤ b) (h2 : w2 = w'.setCell ⟨g, i, none⟩ u) :
    Ords w2 base go gm c n S T F f A1 c1 (some ⟨g, 0, none⟩) c2 KV (fun j => if j = i then u else RV j) ks (fun j => if j = i then rs i ++ [k] else rs j) snd := by
  have hkr := h.rrow.kept hg (.inr (fun e => by
    have := row_row_ne h.rrow (h.rv i hi) (by decide) g rfl
    exact this e.symm))
  have hcs : Ch (· = g) w' w2 := by rw [h2]; exact (Ch.refl _ _).setCell _ _ (fun _ => rfl)
  have hst := (World.ownsRow.stored hkr i u).1
  rw [map_set, ← h2] at hst
  have other : ∀ {e size m : Nat} {v : Value} {xs : List Value}, w.ownsRow base e size v m xs → e ≠ 63 → e ≠ 61 → w2.ownsRow base e size v m xs := fun {e size m v xs} hr h1 h3 => by
    have hr2 := hr.kept hg (by
      cases hb : (RV i).ownBlock with
      | none => cases hv : v.ownBlock with
        | none => exact .inl rfl
        | some b => exact .inr (by simp)
      | some b => exact .inr (row_row_ne (h.rv i hi) hr (Ne.symm h1) b hb))
    exact row_other hr2 hcs (row_row_ne hkr hr2 (Ne.symm h3) g rfl)
  have hb' : Blk w' go (ordC n S T F (.map (some gm)) (.slice A1 n c1) (.slice (some ⟨g, 0, none⟩) n c2) snd) 56 := h.blk.grown hg (row_blk_ne (h.rv i hi) h.blk (by decide))
  have hm' : IMap Try.prog 3 w' gm c (setF f) := h.map.ch (Ch.toGrown hg) (row_map_ne (h.rv i hi) h.map)
  refine ⟨h.ge, hb'.ch hcs (fun e => ?_), hm'.ch hcs (fun e => ?_), other h.krow (by decide) (by decide), hst, fun j hj => other (h.kv j hj) (by decide) (by decide), fun j hj => ?_, h.kap, fun a b ha hb hne q hq => ?_⟩
  · have e' : go = g := e
    rw [e'] at hb'
    exact row_blk_ne hkr hb' (by decide) rfl
  · have e' : gm = g := e
    rw [e'] at hm'
    exact row_map_ne hkr hm' rfl
  · by_cases e : j = i
    · rw [if_pos e, if_pos e]
      exact row_other hu hcs (row_row_ne hkr hu (by decide) g rfl)
    · rw [if_neg e, if_neg e]
      have h3 : OwnR w' base (RV j) (rs j) := (h.rv j hj).kept hg (by
        cases hb : (RV j).ownBlock with
        | none => exact .inl rfl
        | some b => exact .inr (fun e2 => h.rap j i hj hi e b hb e2.symm))
      exact row_other h3 hcs (row_row_ne hkr h3 (by decide) g rfl)
  · have hq : (if a = i then u else RV a).ownBlock = some q := hq
    show (if b = i then u else RV b).ownBlock ≠ some q
    by_cases e1 : a = i
    · rw [if_pos e1] at hq
      by_cases e2 : b = i
      · omega
      · rw [if_neg e2]
        intro h3
        rcases hnew q hq with h4 | h4
        · exact h.rap i b hi hb (Ne.symm e2) q h4 h3
        · have := ((h.rv b hb).lt q h3).2; omega
    · rw [if_neg e1] at hq
      by_cases e2 : b = i
      · rw [if_pos e2]
        intro h3
        rcases hnew q h3 with h4 | h4
        · exact h.rap a i ha hi e1 q hq h4
        · have := ((h.rv a ha).lt q hq).2; omega
      · rw [if_neg e2]
        exact h.rap a b ha hb hne q hq
end
end Go.Proofs.Ytobfanodjdkkoaa
end

section
/- An append to an own row, and where its result lies; the object's row of keys. No condition but each theorem's own. -/
set_option linter.unusedVariables false
set_option linter.unusedSimpArgs false
namespace Go.Proofs.Ytobfanodjdkkoaa
open Go.RowKit Go.Maps

theorem ownsRow_base {w : World} {b b' e size n : Nat} {v : Value} {xs : List Value} (h : w.ownsRow b' e size v n xs) (hb : b ≤ b') : w.ownsRow b e size v n xs := by
  refine ⟨h.1, ?_⟩
  rcases h.2 with h2 | ⟨g, cap, cur, h3, h4, h5⟩
  · exact .inl h2
  · exact .inr ⟨g, cap, cur, h3, Nat.le_trans hb h4, h5⟩
theorem grown_any {w w' : World} {row : Option Nat} (h : w.grownBy w' none) : w.grownBy w' row := ⟨h.os, h.tape, h.output, h.size, fun k hk _ => h.block k hk (by simp)⟩
/-- 'append(s, x)', one element: the result lies where the row lay, or in a new block. -/
theorem step_append_sep {P : Program} {ops : Array Oper} {o : Oper} {a : Act} {w : World} {K : Act → World → Prop} {Q : Exit → Act → World → Prop} {E : Prop} (hgd : o.guard = none) (s x : Operand) (t e : TypeId)
    (ho : o.op = .call { callee := .builtin .append, args := #[s, x], argTypes := #[t, t] }) (z : Value) (size bytes : Nat) (he : ElemOK P t e z size bytes) (hz : z.cells.size = size) (hsz : 0 < size) (hby : bytes ≤ 1000)
    (base : Nat) (v : Value) (n : Nat) (xs : List Value) (hs : a.eval s = v) (hown : w.ownsRow base e size v n xs)
    (g : Nat) (news : Array Value) (T : TypeId) (hx : a.eval x = .slice (some ⟨g, 0, none⟩) 1 1) (hb : Blk w g news T) (hl : news.size = size) (h1 : ∀ u ∈ news.toList, u.oneCell' = true) (hn : n ≤ 1000000) (hbase : base ≤ w.heap.size)
    (h : ∀ v' w', w'.ownsRow base e size v' (n + 1) (xs ++ news.toList) → w.grownBy w' v.ownBlock → (∀ b, v'.ownBlock = some b → v.ownBlock = some b ∨ w.heap.size ≤ b) → K (a.put o.dst v') w') : if Region.wanted o (yielded ops a.tmps) = true then Oper.wp P o a w K Q else E := by
  have hw : Region.wanted o (yielded ops a.tmps) = true := by simp [Region.wanted, hgd]
  obtain ⟨i, hi, hz0, hz1, hz2⟩ := he.get
  have hnews : ∀ j u, news.toList[j]? = some u → w.cell? ((⟨g, 0, none⟩ : Addr).add j) = some u := fun j u hu => by
    rw [show (⟨g, 0, none⟩ : Addr).add j = ⟨g, j, none⟩ from by unfold Addr.add; split <;> simp_all]
    exact hb.cell (by simpa using hu)
  have hbytes : (n + 1) * bytes ≤ 140737488355328 := Nat.le_trans (Nat.mul_le_mul (show n + 1 ≤ 1000001 by omega) hby) (by decide)
  rcases hown.2 with ⟨hv, hn0⟩ | ⟨g2, cap, cur, hv, hbg, hg, hnc, hcm, hcs, htake⟩
  · subst hn0
    have hx0 : xs = [] := List.eq_nil_of_length_eq_zero (by simpa using hown.1)
    subst hx0
    exact step_append_grows (E := E) hgd s x t ho e i z size bytes he.under hi hz0 hz1 hz2 hz hsz none 0 0 [] (hs.trans hv) (fun _ => ⟨rfl, rfl⟩) (by simp) (fun b hb => by cases hb) ⟨g, 0, none⟩ 1 1 news.toList hx (by simp [hl]) hnews h1 (by omega) (by unfold maxLen; omega) hbytes
      (fun v' w' r1 r2 => h v' w' (ownsRow_base r1 hbase) (grown_any r2) (fun b hb => .inr (r1.lt b hb).1))
  · by_cases hroom : n + 1 ≤ cap
    · rw [if_pos hw]
      subst hv
      obtain ⟨w', hrun, r1, r2⟩ := run_append_fits (P := P) w base t o.type e i size he.under hi hz1 g2 n cap xs hown ⟨g, 0, none⟩ 1 1 news.toList (by simp [hl]) hnews h1 hroom
      unfold Oper.wp
      simp [execOp, ho, resolve, invoke, builtin, hs, hx, hrun, Result.andThen]
      exact h _ _ r1 r2 (fun b hb => .inl hb)
    · subst hv
      exact step_append_grows (E := E) hgd s x t ho e i z size bytes he.under hi hz0 hz1 hz2 hz hsz (some ⟨g2, 0, none⟩) n cap xs hs (fun h => by cases h) hown.1 (fun b hb j u hu => by cases hb; exact hown.cells (g := g2) rfl j u hu) ⟨g, 0, none⟩ 1 1 news.toList hx (by simp [hl]) hnews h1 (by omega) (by unfold maxLen; omega) hbytes
        (fun v' w' r1 r2 => h v' w' (ownsRow_base r1 hbase) (grown_any r2) (fun b hb => .inr (r1.lt b hb).1))
end Go.Proofs.Ytobfanodjdkkoaa
end

section
/- Who writes to which key, and the keys of each: in plain words. No condition but each theorem's own. -/
set_option linter.unusedVariables false
set_option linter.unusedSimpArgs false
namespace Go.Proofs.Ytobfanodjdkkoaa
open Go.RowKit Go.Maps

def putN (f : Int → Option Nat) (k : Int) (s : Nat) : Int → Option Nat := fun x => if x = k then some s else f x
theorem setF_put (f : Int → Option Nat) (k : Int) (s : Nat) : putM (setF f) k (.int .u64 (s : Nat)) = setF (putN f k s) := by
  funext x
  unfold putM setF putN
  split <;> rfl
theorem setF_get (f : Int → Option Nat) (k : Int) : (setF f k).getD (.int .u64 0) = .int .u64 (((f k).getD 0 : Nat)) := by
  unfold setF
  cases f k <;> rfl
/-- The first j of transaction i's writes, entered. -/
def wTo (i : Nat) (ys : List Opn) (f : Int → Option Nat) : Nat → Int → Option Nat
  | 0 => f
  | j + 1 => putN (wTo i ys f j) (ys.getD j opZero).key (withS ((wTo i ys f j (ys.getD j opZero).key).getD 0) (i : Int))
def wOf (hs : List Txr) (i : Nat) : List Opn := writesR (hs.getD i txrZero).ops 64
def wF (hs : List Txr) : Nat → Int → Option Nat
  | 0 => fun _ => none
  | i + 1 => wTo i (wOf hs i) (wF hs i) (wOf hs i).length
def SetsOK (f : Int → Option Nat) : Prop := ∀ k, (f k).getD 0 < 18446744073709551616
theorem putN_ok {f : Int → Option Nat} (h : SetsOK f) (k : Int) (s : Nat) (hs : s < 18446744073709551616) : SetsOK (putN f k s) := fun x => by
  unfold putN
  split
  · exact hs
  · exact h x
theorem wTo_ok {i : Nat} {ys : List Opn} {f : Int → Option Nat} (h : SetsOK f) : ∀ j, SetsOK (wTo i ys f j)
  | 0 => h
  | j + 1 => putN_ok (wTo_ok h j) _ _ (withS_lt _ _ (wTo_ok h j _))
theorem wF_ok (hs : List Txr) : ∀ i, SetsOK (wF hs i)
  | 0 => fun k => (by decide : 0 < 18446744073709551616)
  | i + 1 => wTo_ok (wF_ok hs i) _
/-- The keys that each writes to, so far. -/
def kTo (hs : List Txr) (i j : Nat) : Nat → List Int := fun a => if a < i then (wOf hs a).map Opn.key else if a = i then ((wOf hs i).take j).map Opn.key else []
theorem kTo_zero (hs : List Txr) : kTo hs 0 0 = fun _ => [] := by
  funext a
  unfold kTo
  rw [if_neg (by omega)]
  split <;> rfl
theorem kTo_at (hs : List Txr) (i j : Nat) : kTo hs i j i = ((wOf hs i).take j).map Opn.key := by
  unfold kTo
  rw [if_neg (by omega), if_pos rfl]
theorem kTo_step (hs : List Txr) (i j : Nat) (hj : j < (wOf hs i).length) : (fun a => if a = i then kTo hs i j i ++ [((wOf hs i).getD j opZero).key] else kTo hs i j a) = kTo hs i (j + 1) := by
  funext a
  by_cases e : a = i
  · subst e
    rw [if_pos rfl, kTo_at, kTo_at]
    generalize wOf hs a = L at hj ⊢
    rw [List.take_add_one, List.map_append, List.getElem?_eq_getElem hj]
    rw [List.getD_eq_getElem?_getD, List.getElem?_eq_getElem hj]
    rfl
  · rw [if_neg e]
    unfold kTo
    by_cases e2 : a < i
    · rw [if_pos e2, if_pos e2]
    · rw [if_neg e2, if_neg e2, if_neg e, if_neg e]
theorem kTo_next (hs : List Txr) (i : Nat) : kTo hs i (wOf hs i).length = kTo hs (i + 1) 0 := by
  funext a
  unfold kTo
  by_cases e2 : a < i
  · rw [if_pos e2, if_pos (by omega)]
  · rw [if_neg e2]
    by_cases e : a = i
    · subst e
      rw [if_pos rfl, if_pos (by omega), List.take_length]
    · rw [if_neg e, if_neg (by omega)]
      split <;> rfl
theorem keys64_of {hs : List Txr} (h : mayH hs = true) {i : Nat} (hi : i < hs.length) : Keys64 (hs.getD i txrZero).ops := fun j hj => ⟨(may_ops h hi hj).1, (may_ops h hi hj).2.1⟩
end Go.Proofs.Ytobfanodjdkkoaa
end

section
/- What a transaction reads of others, by the program: in plain words. No condition but each theorem's own. -/
set_option linter.unusedVariables false
set_option linter.unusedSimpArgs false
namespace Go.Proofs.Ytobfanodjdkkoaa
open Go.RowKit Go.Maps

theorem leaf_of {P : Program} {c : Code} {Q : Exit → Act → World → Prop} {a : Act} {w : World} {A : Option Addr → Nat → World → Act} (R : Option Addr → Nat → World → Prop) (W : Option Addr → Nat → World → World) (main : (∀ p q r, R p q r → Q .normal (A p q r) (W p q r)) → c.wp P Q a w) (h : ∀ p q r, R p q r → Q .normal (A p q r) (W p q r)) : c.wp P Q a w := main h
theorem ownsRow_shape {w : World} {base e size n : Nat} {v : Value} {xs : List Value} (h : w.ownsRow base e size v n xs) : ∃ A c, v = .slice A n c := by
  rcases h.2 with ⟨hv, hn⟩ | ⟨g, cap, cur, hv, _⟩
  · exact ⟨none, 0, by rw [hv, hn]⟩
  · exact ⟨_, _, hv⟩
def fromOf (M : WM) (x : Opn) : Int := if x.val = 0 then -1 else ((M x.val).getD wrZero).txn
def okOf (M : WM) (i : Nat) (x : Opn) : Bool := x.val == 0 || (((M x.val).getD wrZero).last && ((M x.val).getD wrZero).txn != (i : Int))
def rdTo (M : WM) (i : Nat) (ys : List Opn) : Nat → List (Int × Int)
  | 0 => []
  | j + 1 => rdTo M i ys j ++ if fromOf M (ys.getD j opZero) = (i : Int) then [] else [((ys.getD j opZero).key, fromOf M (ys.getD j opZero))]
def frTo (M : WM) (i : Nat) (ys : List Opn) (F : Nat → Nat) : Nat → Nat → Nat
  | 0 => F
  | j + 1 => if fromOf M (ys.getD j opZero) = (i : Int) then frTo M i ys F j else addR (frTo M i ys F j) (fromOf M (ys.getD j opZero)) (i : Int)
def sdTo (M : WM) (i : Nat) (ys : List Opn) (b : Bool) : Nat → Bool
  | 0 => b
  | j + 1 => sdTo M i ys b j && okOf M i (ys.getD j opZero)
theorem frTo_ok {M : WM} {i : Nat} {ys : List Opn} {F : Nat → Nat} (h : RelOK F) : ∀ j, RelOK (frTo M i ys F j)
  | 0 => h
  | j + 1 => by
    unfold frTo
    split
    · exact frTo_ok h j
    · exact addR_ok (frTo_ok h j) _ _
theorem rdTo_len (M : WM) (i : Nat) (ys : List Opn) : ∀ j, (rdTo M i ys j).length ≤ j
  | 0 => Nat.le_refl _
  | j + 1 => by
    have := rdTo_len M i ys j
    unfold rdTo
    rw [List.length_append]
    split <;> simp <;> omega
theorem rdTo_skip {M : WM} {i j : Nat} {ys : List Opn} {x : Opn} (hx : ys.getD j opZero = x) (h : fromOf M x = (i : Int)) : rdTo M i ys j = rdTo M i ys (j + 1) := by
  show _ = rdTo M i ys j ++ _
  rw [hx, if_pos h, List.append_nil]
theorem rdTo_step {M : WM} {i j : Nat} {ys : List Opn} {x : Opn} (hx : ys.getD j opZero = x) (h : fromOf M x ≠ (i : Int)) : rdTo M i ys j ++ [(x.key, fromOf M x)] = rdTo M i ys (j + 1) := by
  show _ = rdTo M i ys j ++ _
  rw [hx, if_neg h]
theorem frTo_skip {M : WM} {i j : Nat} {ys : List Opn} {F : Nat → Nat} {x : Opn} (hx : ys.getD j opZero = x) (h : fromOf M x = (i : Int)) : frTo M i ys F j = frTo M i ys F (j + 1) := by
  show _ = if _ then _ else _
  rw [hx, if_pos h]
theorem frTo_step {M : WM} {i j : Nat} {ys : List Opn} {F : Nat → Nat} {x : Opn} (hx : ys.getD j opZero = x) (h : fromOf M x ≠ (i : Int)) : addR (frTo M i ys F j) (fromOf M x) (i : Int) = frTo M i ys F (j + 1) := by
  show _ = if _ then _ else _
  rw [hx, if_neg h]
theorem sdTo_step {M : WM} {i j : Nat} {ys : List Opn} {b : Bool} {x : Opn} (hx : ys.getD j opZero = x) : sdTo M i ys b (j + 1) = (sdTo M i ys b j && okOf M i x) := by
  show (sdTo M i ys b j && okOf M i (ys.getD j opZero)) = _
  rw [hx]
/-- What stands at row i grows by l. -/
def addAt {α : Type} (rs : Nat → List α) (i : Nat) (l : List α) : Nat → List α := fun a => if a = i then rs i ++ l else rs a
theorem addAt_nil {α : Type} (rs : Nat → List α) (i : Nat) : addAt rs i [] = rs := by
  funext a
  unfold addAt
  by_cases e : a = i
  · subst e; rw [if_pos rfl, List.append_nil]
  · rw [if_neg e]
theorem addAt_step {α : Type} (rs : Nat → List α) (i : Nat) (l : List α) (x : α) : (fun a => if a = i then addAt rs i l i ++ [x] else addAt rs i l a) = addAt rs i (l ++ [x]) := by
  funext a
  unfold addAt
  by_cases e : a = i
  · subst e; rw [if_pos rfl, if_pos rfl, if_pos rfl, List.append_assoc]
  · rw [if_neg e, if_neg e, if_neg e]
end Go.Proofs.Ytobfanodjdkkoaa
end

section
/- What follows of a history, in plain words: what each reads, who writes, what is handed back. No condition but each theorem's own. -/
set_option linter.unusedVariables false
set_option linter.unusedSimpArgs false
namespace Go.Proofs.Ytobfanodjdkkoaa
open Go.RowKit Go.Maps

/-- What each reads of others. -/
def rOf (hs : List Txr) (i : Nat) : List Opn := readsR (hs.getD i txrZero).ops 64
def frAll (M : WM) (hs : List Txr) : Nat → Nat → Nat
  | 0 => fun _ => 0
  | i + 1 => frTo M i (rOf hs i) (frAll M hs i) (rOf hs i).length
def rsAll (M : WM) (hs : List Txr) (i : Nat) : Nat → List (Int × Int) := fun a => if a < i then rdTo M a (rOf hs a) (rOf hs a).length else []
def sdAll (M : WM) (hs : List Txr) : Nat → Bool
  | 0 => true
  | i + 1 => sdTo M i (rOf hs i) (steadyB (hs.getD i txrZero).ops) (rOf hs i).length && sdAll M hs i
theorem frAll_ok (M : WM) (hs : List Txr) : ∀ i, RelOK (frAll M hs i)
  | 0 => fun _ => (by decide : 0 < 18446744073709551616)
  | i + 1 => frTo_ok (frAll_ok M hs i) _
theorem rsAll_next (M : WM) (hs : List Txr) (i : Nat) : addAt (rsAll M hs i) i (rdTo M i (rOf hs i) (rOf hs i).length) = rsAll M hs (i + 1) := by
  funext a
  unfold addAt rsAll
  by_cases e : a = i
  · subst e
    rw [if_pos rfl, if_neg (by omega), if_pos (by omega), List.nil_append]
  · rw [if_neg e]
    by_cases e2 : a < i
    · rw [if_pos e2, if_pos (by omega)]
    · rw [if_neg e2, if_neg (by omega)]
/-- What Of hands back for a history that may be. -/
def OfPost (w : World) (hs : List Txr) (e : Ending) (w' : World) : Prop :=
  ∃ (base go gm c : Nat) (A1 : Option Addr) (c1 : Nat) (A2 : Option Addr) (c2 : Nat) (KV RV : Nat → Value) (M : WM), e = .returned (.tuple #[.pointer (some ⟨go, 0, none⟩), .int .i64 0]) ∧ histF hs hs.length = some M ∧
    Ords w' base go gm c hs.length (pairsR (sesB hs) hs.length) (pairsR (timeB hs) hs.length) (frAll M hs hs.length) (wF hs hs.length) A1 c1 A2 c2 KV RV (kTo hs hs.length 0) (rsAll M hs hs.length) (sdAll M hs hs.length) ∧ w.heap.size ≤ base ∧ Ch nob w w'
theorem under_mset : Try.prog.underlying 52 = some (.map 3 49) := by kernel_rfl
theorem zero_set (w : World) : (zeroValue 49).run Try.prog w = .ok (.int .u64 0) w := by kernel_rfl
end Go.Proofs.Ytobfanodjdkkoaa
end

section
/- What follows of a history that may not be: nothing, and the error's number; a read as the law makes it. No condition but each theorem's own. -/
set_option linter.unusedVariables false
set_option linter.unusedSimpArgs false
namespace Go.Proofs.Ytobfanodjdkkoaa
open Go.RowKit Go.Maps

set_option maxRecDepth 20000 in
set_option maxHeartbeats 1000000 in
theorem op_read (k v : Int) (w : World) : Calls Try.prog 49 #[.int .i64 k, .int .i64 v] w fun e w' => e = .returned (.agg #[.bool false, .int .i64 k, .int .i64 v]) ∧ Ch nob w w' := by
  have hc0 : Ch nob w (w.alloc (.cells #[.bool false, .int .i64 k, .int .i64 v] 35)) := (Ch.refl _ _).alloc _
  go_enter Try.func49, Try.ntmps49
  go_wp2_with fail
  exact bodyPost_ret (results_cell_row rfl _ _ w.heap.size 35 #[.bool false, .int .i64 k, .int .i64 v] (0, 0) _ rfl (Blk.new _ _ _) rfl rfl (by kernel_rfl)) rfl ⟨rfl, hc0⟩
set_option maxRecDepth 100000 in
set_option maxHeartbeats 2000000 in
theorem of_none (w : World) (v : Value) (hs : List Txr) (z : Int) (hv : Txns w v hs) (hk : TxnsOk hs) (hn : countTo hs hs.length ≤ 1000000) (hz : docH hs = z) (hne : (z != 0) = true) : Calls Try.prog 23 #[v] w fun e w' => e = .returned (.tuple #[.pointer none, .int .i64 z]) ∧ Ch nob w w' := by
  obtain ⟨A, cp, rfl⟩ := hv.shape
  have hcA : Ch nob w (w.alloc (.cells #[.slice A hs.length cp] 22)) := (Ch.refl _ _).alloc _
  have HC := check_history (w.alloc (.cells #[.slice A hs.length cp] 22)) (.slice A hs.length cp) hs (hv.keep hcA) hk hn
  rw [check_is, hz] at HC
  obtain ⟨n, hn2⟩ : ∃ n, hs.length = n := ⟨_, rfl⟩
  rw [hn2] at HC hcA ⊢
  have HC2 := Lib.hid HC
  clear hv hk hn hz HC hn2
  go_enter Try.func23, Try.ntmps23
  go_wp2_with fail
  refine HC2.out.mono ?_
  rintro e w1 ⟨rfl, hc1⟩
  have hc2 := hcA.seq hc1
  clear HC2 hcA hc1
  go_wp2_with fail
  go_ret2
  exact ⟨rfl, hc2⟩
end Go.Proofs.Ytobfanodjdkkoaa
end

section
/- Who comes ahead of whom, by the document (burgageref08.Session, Time). No condition but each theorem's own. -/
set_option linter.unusedVariables false
set_option linter.unusedSimpArgs false
namespace Go.Proofs.Ytobfanodjdkkoaa
open Go.RowKit Go.Maps

set_option maxHeartbeats 2000000 in
theorem session_ref08 (w : World) (v : Value) (hs : List Txr) (i k : Nat) (hv : Txns w v hs) (hi : i < hs.length) (hk : k < hs.length) : Calls Try.prog 34 #[v, .int .i64 i, .int .i64 k] w fun e w' => e = .returned (.bool (sesB hs i k)) ∧ Ch nob w w' := by
  obtain ⟨A, cp, rfl⟩ := hv.shape
  have HV := Lib.hid hv
  have HI := Lib.hid hi
  have HK := Lib.hid hk
  obtain ⟨n, hn2⟩ : ∃ n, hs.length = n := ⟨_, rfl⟩
  have HN := Lib.hid hn2
  rw [hn2] at hi hk HV ⊢
  obtain ⟨ad, u1, rfl, hx0, _⟩ := HV.out.at.2.2 i HI.out
  obtain ⟨ad2, u2, hA, hy0, _⟩ := HV.out.at.2.2 k HK.out
  obtain rfl := Option.some.inj hA
  have HB := Lib.hid (show sesB hs i k = (decide (i < k) && (hs.getD i txrZero).ses == (hs.getD k txrZero).ses) from rfl)
  obtain ⟨a, ha⟩ : ∃ a, (hs.getD i txrZero).ses = a := ⟨_, rfl⟩
  obtain ⟨b, hb⟩ : ∃ b, (hs.getD k txrZero).ses = b := ⟨_, rfl⟩
  rw [ha] at hx0 HB
  rw [hb] at hy0 HB
  have X1 := fun u : Ext _ => Ext.cell hx0 u
  have X2 := fun u : Ext _ => Ext.cell hy0 u
  clear hv hn2 hA ha hb
  by_cases hlt : i < k
  · have hd : decide ((i : Int) < (k : Int)) = true := decide_eq_true (by omega)
    have HB2 := Lib.hid (show sesB hs i k = (a == b) from by rw [HB.out, decide_eq_true hlt, Bool.true_and])
    go_enter Try.func34, Try.ntmps34
    go_wp2_with fail
    refine wp_region_ch (w0 := _) (by kernel_rfl) (by kernel_rfl) (Ch.refl _ _) ?_
    repeat go_big_quiet_step (fail)
    refine wpQuiet_nil ?_
    rintro wq ⟨⟨_, hcq⟩, rfl⟩
    go_wp2_with fail
    go_ret
    exact ⟨ret_bool HB2.out.symm, hcq⟩
  · have hd : decide ((i : Int) < (k : Int)) = false := decide_eq_false (by omega)
    have HB2 := Lib.hid (show sesB hs i k = false from by rw [HB.out, decide_eq_false hlt, Bool.false_and])
    go_enter Try.func34, Try.ntmps34
    go_wp2_with fail
    refine wp_region_ch (w0 := _) (by kernel_rfl) (by kernel_rfl) (Ch.refl _ _) ?_
    repeat go_big_quiet_step (fail)
    refine wpQuiet_nil ?_
    rintro wq ⟨⟨_, hcq⟩, rfl⟩
    go_wp2_with fail
    go_ret
    exact ⟨ret_bool HB2.out.symm, hcq⟩
set_option maxHeartbeats 2000000 in
theorem time_ref08 (w : World) (v : Value) (hs : List Txr) (i k : Nat) (hv : Txns w v hs) (hi : i < hs.length) (hk : k < hs.length) : Calls Try.prog 35 #[v, .int .i64 i, .int .i64 k] w fun e w' => e = .returned (.bool (timeB hs i k)) ∧ Ch nob w w' := by
  obtain ⟨A, cp, rfl⟩ := hv.shape
  have HV := Lib.hid hv
  have HI := Lib.hid hi
  have HK := Lib.hid hk
  obtain ⟨n, hn2⟩ : ∃ n, hs.length = n := ⟨_, rfl⟩
  have HN := Lib.hid hn2
  rw [hn2] at hi hk HV ⊢
  obtain ⟨ad, u1, rfl, _, _, hx2, _⟩ := HV.out.at.2.2 i HI.out
  obtain ⟨ad2, u2, hA, _, hy1, _⟩ := HV.out.at.2.2 k HK.out
  obtain rfl := Option.some.inj hA
  have HB := Lib.hid (show timeB hs i k = decide ((hs.getD i txrZero).com < (hs.getD k txrZero).beg) from rfl)
  obtain ⟨a, ha⟩ : ∃ a, (hs.getD i txrZero).com = a := ⟨_, rfl⟩
  obtain ⟨b, hb⟩ : ∃ b, (hs.getD k txrZero).beg = b := ⟨_, rfl⟩
  rw [ha] at hx2 HB
  rw [hb] at hy1 HB
  have X1 := fun u : Ext _ => Ext.cell hx2 u
  have X2 := fun u : Ext _ => Ext.cell hy1 u
  clear hv hn2 hA ha hb
  go_enter Try.func35, Try.ntmps35
  go_wp2_with fail
  refine wp_region_ch (w0 := _) (by kernel_rfl) (by kernel_rfl) (Ch.refl _ _) ?_
  repeat go_big_quiet_step (fail)
  refine wpQuiet_nil ?_
  rintro wq ⟨⟨_, hcq⟩, rfl⟩
  go_wp2_with fail
  go_ret
  exact ⟨ret_bool HB.out.symm, hcq⟩

end Go.Proofs.Ytobfanodjdkkoaa
end

section
/- Does a transaction write to a key, by the document (burgageref08.Writes)? No condition but each theorem's own. -/
set_option linter.unusedVariables false
set_option linter.unusedSimpArgs false
namespace Go.Proofs.Ytobfanodjdkkoaa
open Go.RowKit Go.Maps

set_option maxRecDepth 100000 in
set_option maxHeartbeats 2000000 in
theorem writes_ref08 (w : World) (v : Value) (hs : List Txr) (i : Nat) (k z : Int) (hv : Txns w v hs) (hi : i < hs.length) (hl : (hs.getD i txrZero).ops.length ≤ 10000) (hz : valR (hs.getD i txrZero).ops k = z) :
    Calls Try.prog 61 #[v, .int .i64 i, .int .i64 k] w fun e w' => e = .returned (.bool (z != 0)) ∧ Ch nob w w' := by
  obtain ⟨A, cp, rfl⟩ := hv.shape
  obtain ⟨ad, u, rfl, hx0, hx1, hx2, hx3, hu⟩ := hv.at.2.2 i hi
  have HC := value_ref05 w u _ k hu hl
  rw [hz] at HC
  have HC2 := Lib.hid HC
  obtain ⟨n, hn2⟩ : ∃ n, hs.length = n := ⟨_, rfl⟩
  rw [hn2] at hi ⊢
  clear hv hl hz hu HC hx0 hx1 hx2 hn2
  go_enter Try.func61, Try.ntmps61
  go_wp2_with fail
  refine HC2.out.mono ?_
  rintro e w1 ⟨rfl, hc1⟩
  clear HC2
  go_wp2_with fail
  go_ret
  exact ⟨rfl, hc1⟩
end Go.Proofs.Ytobfanodjdkkoaa
end

section
/- Do two transactions write to one key, by the document (burgageref08.Rivals)? No condition but each theorem's own. -/
set_option linter.unusedVariables false
set_option linter.unusedSimpArgs false
namespace Go.Proofs.Ytobfanodjdkkoaa
open Go.RowKit Go.Maps

def wkB (hs : List Txr) (i : Nat) (k : Int) : Bool := valR (hs.getD i txrZero).ops k != 0
def rivB (hs : List Txr) (i k : Nat) : Bool := i != k && (List.range 64).any fun q => wkB hs i (q : Int) && wkB hs k (q : Int)
theorem rivB_yes {hs : List Txr} {i k q : Nat} (h : i ≠ k) (hq : q < 64) (h1 : wkB hs i (q : Int) = true) (h2 : wkB hs k (q : Int) = true) : rivB hs i k = true := by
  unfold rivB
  rw [any_yes (p := fun q : Nat => wkB hs i (q : Int) && wkB hs k (q : Int)) hq (by rw [h1, h2]; rfl)]
  simp [h]
theorem rivB_no {hs : List Txr} {i k : Nat} (h : ∀ q : Nat, q < 64 → (wkB hs i (q : Int) && wkB hs k (q : Int)) = false) : rivB hs i k = false := by
  unfold rivB
  rw [any_no h, Bool.and_false]
theorem rivB_self (hs : List Txr) (i : Nat) : rivB hs i i = false := by unfold rivB; simp
set_option maxRecDepth 100000 in
set_option maxHeartbeats 4000000 in
theorem rivals_ref08 (w : World) (v : Value) (hs : List Txr) (i k : Nat) (hv : Txns w v hs) (hi : i < hs.length) (hk : k < hs.length) (hl : ∀ a, a < hs.length → (hs.getD a txrZero).ops.length ≤ 10000) :
    Calls Try.prog 36 #[v, .int .i64 i, .int .i64 k] w fun e w' => e = .returned (.bool (rivB hs i k)) ∧ Ch nob w w' := by
  obtain ⟨A, cp, rfl⟩ := hv.shape
  have HWI := Lib.hid (fun (wr : World) (q z : Int) (hc : Ch nob w wr) (hz : valR (hs.getD i txrZero).ops q = z) => writes_ref08 wr (.slice A hs.length cp) hs i q z (hv.keep hc) hi (hl i hi) hz)
  have HWK := Lib.hid (fun (wr : World) (q z : Int) (hc : Ch nob w wr) (hz : valR (hs.getD k txrZero).ops q = z) => writes_ref08 wr (.slice A hs.length cp) hs k q z (hv.keep hc) hk (hl k hk) hz)
  obtain ⟨n, hn2⟩ : ∃ n, hs.length = n := ⟨_, rfl⟩
  rw [hn2] at HWI HWK ⊢
  clear hv hi hk hl hn2
  by_cases hik : i = k
  · have hd : ((i : Int) == (k : Int)) = true := by rw [beq_iff_eq]; omega
    have HF := Lib.hid (show rivB hs i k = false from by rw [hik]; exact rivB_self hs k)
    go_enter Try.func36, Try.ntmps36
    go_wp2_with fail
    go_ret
    exact ⟨ret_bool HF.out.symm, Ch.refl _ _⟩
  · have hd : ((i : Int) == (k : Int)) = false := by rw [beq_eq_false_iff_ne]; omega
    go_enter Try.func36, Try.ntmps36
    go_wp2_with fail
    go_loopw [7] (fun x wr => ∃ q : Nat, x = .int .i64 q ∧ q ≤ 64 ∧ Hid (∀ j : Nat, j < q → (wkB hs i (j : Int) && wkB hs k (j : Int)) = false) ∧ Ch nob w wr) (fun x _ => 64 - (intOf x).toNat)
    case atStart => exact ⟨0, rfl, Nat.zero_le _, Lib.hid (fun j hj => by omega), Ch.refl _ _⟩
    case round =>
      obtain ⟨q, rfl, hq, hst, hc⟩ := hrel
      by_cases hlt : q < 64
      · have hd2 : decide ((q : Int) < 64) = true := decide_eq_true (by omega)
        obtain ⟨z, hz⟩ : ∃ z, valR (hs.getD i txrZero).ops q = z := ⟨_, rfl⟩
        obtain ⟨z2, hz2⟩ : ∃ z, valR (hs.getD k txrZero).ops q = z := ⟨_, rfl⟩
        have HZ := Lib.hid hz
        have HZ2 := Lib.hid hz2
        have HA := Lib.hid (show wkB hs i (q : Int) = (z != 0) from by rw [← hz]; rfl)
        have HB := Lib.hid (show wkB hs k (q : Int) = (z2 != 0) from by rw [← hz2]; rfl)
        have hno : (wkB hs i (q : Int) && wkB hs k (q : Int)) = false → Hid (∀ j : Nat, j < q + 1 → (wkB hs i (j : Int) && wkB hs k (j : Int)) = false) := fun h => Lib.hid (fun j hj => by
          by_cases e : j = q
          · rw [e]; exact h
          · exact hst.out j (by omega))
        have HNO := Lib.hid hno
        clear hz hz2 hno
        go_wp2_with fail
        refine (HWI.out wr q z hc HZ.out).mono ?_
        rintro e w1 ⟨rfl, hc1⟩
        have hc2 := hc.seq hc1
        clear hc1 hc
        cases h1 : (z != 0) with
        | false =>
          have HT := HNO.out (by rw [HA.out, h1]; rfl)
          go_wp2_with fail
          go_roundw
          case rel => exact ⟨q + 1, by go_num, by omega, HT, hc2⟩
          case measure => simp [intOf]; omega
        | true =>
          go_wp2_with fail
          refine (HWK.out w1 q z2 hc2 HZ2.out).mono ?_
          rintro e w2 ⟨rfl, hc3⟩
          have hc4 := hc2.seq hc3
          clear hc2 hc3
          cases h2 : (z2 != 0) with
          | false =>
            have HT := HNO.out (by rw [HB.out, h2, Bool.and_false])
            go_wp2_with fail
            go_roundw
            case rel => exact ⟨q + 1, by go_num, by omega, HT, hc4⟩
            case measure => simp [intOf]; omega
          | true =>
            have HF := Lib.hid (rivB_yes hik hlt (by rw [HA.out]; exact h1) (by rw [HB.out]; exact h2))
            go_wp2_with fail
            go_ret
            exact ⟨ret_bool HF.out.symm, hc4⟩
      · have hd2 : decide ((q : Int) < 64) = false := decide_eq_false (by omega)
        obtain rfl : q = 64 := by omega
        have HF := Lib.hid (rivB_no hst.out)
        go_wp2_with fail
        go_ret
        exact ⟨ret_bool HF.out.symm, hc⟩
end Go.Proofs.Ytobfanodjdkkoaa
end

section
/- What follows of a history, by the program and by the document: in plain words. No condition but each theorem's own. -/
set_option linter.unusedVariables false
set_option linter.unusedSimpArgs false
namespace Go.Proofs.Ytobfanodjdkkoaa
open Go.RowKit Go.Maps

theorem cell_keep {w w' : World} {a : Addr} {v : Value} (h : w.cell? a = some v) (hc : Ch nob w w') : w'.cell? a = some v := Ext.cell h ⟨w', hc⟩
theorem getD_mem {l : List Opn} {j : Nat} (h : j < l.length) : l.getD j opZero ∈ l := by
  rw [List.getD_eq_getElem?_getD, List.getElem?_eq_getElem h]; exact List.getElem_mem h
theorem mem_getD {l : List Opn} {x : Opn} (h : x ∈ l) : ∃ j, j < l.length ∧ l.getD j opZero = x := by
  obtain ⟨j, hj, e⟩ := List.getElem_of_mem h
  exact ⟨j, hj, by rw [List.getD_eq_getElem?_getD, List.getElem?_eq_getElem hj, Option.getD_some, e]⟩
/-- Of a read of a history that may be: who wrote what it reads. -/
theorem read_by {hs : List Txr} {M : WM} (hm : mayH hs = true) (h : histF hs hs.length = some M) {i : Nat} (hi : i < hs.length) {x : Opn} (hx : x ∈ rOf hs i) :
    x.val = 0 ∨ ∃ f : Nat, f < hs.length ∧ M x.val = some ⟨(f : Int), x.key, valR (hs.getD f txrZero).ops x.key == x.val⟩ ∧ ∀ z, IsWriter hs x.key x.val z → z = (f : Int) := by
  unfold rOf at hx
  obtain ⟨hk, hx2⟩ := (mem_readsR _ _ _).1 hx
  obtain ⟨j, hj, hr, hjx⟩ := (mem_readsTo _ _ _).1 hx2
  have hw : x.wr = false := by
    unfold readAt at hr
    rw [hjx, Bool.and_eq_true] at hr
    simpa using hr.2
  have hf := ((may_iff hs).1 hm).2.2 i hi j hj
  rw [hjx] at hf
  unfold opFine at hf
  rw [hw] at hf
  by_cases h0 : x.val = 0
  · exact .inl h0
  · right
    have hh : hasWB hs x.key x.val = true := by simpa [h0] using hf
    unfold hasWB at hh
    rw [List.any_eq_true] at hh
    obtain ⟨f, hf1, hf2⟩ := hh
    have hf1 := List.mem_range.1 hf1
    obtain ⟨q, hq1, hq2⟩ := wroteB_ex hf2
    obtain ⟨y, hy⟩ : ∃ y, (hs.getD f txrZero).ops.getD q opZero = y := ⟨_, rfl⟩
    rw [hy] at hq2
    have h3 := isWK_isW hq2
    have h4 : y.wr = true ∧ y.val = x.val := by have := h3.1; unfold isW at this; simpa using this
    have hM := write_is hm h hf1 rfl hq1 hy h4.1
    rw [h4.2, h3.2] at hM
    refine ⟨f, hf1, hM, fun z hz => ?_⟩
    rcases hz with ⟨t, ht, rfl, ht2, _⟩ | ⟨rfl, hno⟩
    · rw [(one_key h ht hf1 ht2 hf2).1]
    · rw [hno f hf1] at hf2; cases hf2
theorem from_is {hs : List Txr} {M : WM} (hm : mayH hs = true) (h : histF hs hs.length = some M) {i : Nat} (hi : i < hs.length) {x : Opn} (hx : x ∈ rOf hs i) (h0 : x.val ≠ 0) {z : Int} (hz : IsWriter hs x.key x.val z) : fromOf M x = z := by
  rcases read_by hm h hi hx with h1 | ⟨f, _, h2, h3⟩
  · exact absurd h1 h0
  · unfold fromOf
    rw [if_neg h0, h2, h3 z hz]
    rfl
/-- What is read of others is right: by the document. -/
theorem ok_is {hs : List Txr} {M : WM} (hm : mayH hs = true) (h : histF hs hs.length = some M) {i : Nat} (hi : i < hs.length) {x : Opn} (hx : x ∈ rOf hs i) (h0 : x.val ≠ 0) {z : Int} (hz : IsWriter hs x.key x.val z) :
    ∃ f : Nat, f < hs.length ∧ z = f ∧ okOf M i x = (valR (hs.getD f txrZero).ops x.key == x.val && (z != (i : Int))) := by
  rcases read_by hm h hi hx with h1 | ⟨f, hf, h2, h3⟩
  · exact absurd h1 h0
  · refine ⟨f, hf, h3 z hz, ?_⟩
    unfold okOf
    rw [h2, h3 z hz]
    simp [h0]
theorem ok_zero {M : WM} {i : Nat} {x : Opn} (h0 : x.val = 0) : okOf M i x = true := by unfold okOf; rw [h0]; rfl
theorem sdTo_all (M : WM) (i : Nat) (ys : List Opn) (b : Bool) : ∀ j, j ≤ ys.length → sdTo M i ys b j = (b && (ys.take j).all (okOf M i))
  | 0, _ => by simp [sdTo]
  | j + 1, hj => by
    unfold sdTo
    rw [sdTo_all M i ys b j (by omega), List.take_add_one, List.all_append, List.getElem?_eq_getElem (by omega), List.getD_eq_getElem?_getD, List.getElem?_eq_getElem (by omega)]
    simp [Bool.and_assoc]
def soundAt (M : WM) (hs : List Txr) (i : Nat) : Bool := steadyB (hs.getD i txrZero).ops && (rOf hs i).all (okOf M i)
theorem sdAll_all (M : WM) (hs : List Txr) : ∀ n, sdAll M hs n = (List.range n).all (soundAt M hs)
  | 0 => rfl
  | n + 1 => by
    unfold sdAll
    rw [sdAll_all M hs n, sdTo_all _ _ _ _ _ (Nat.le_refl _), List.take_length, List.range_succ, List.all_append, Bool.and_comm]
    simp [soundAt]
/-! ### Who reads of whom -/
theorem addR_bit (r : Nat → Nat) (a b : Int) (c d : Nat) (hc : c < 64) (hd : d < 64) : hasR (addR r a b) (c : Int) (d : Int) = (hasR r (c : Int) (d : Int) || (a == (c : Int) && b == (d : Int))) := by
  have ic : inS (c : Int) = true := by unfold inS; exact decide_eq_true (by omega)
  have id' : inS (d : Int) = true := by unfold inS; exact decide_eq_true (by omega)
  unfold addR
  split
  · rename_i h
    rw [Bool.and_eq_true] at h
    have ha : 0 ≤ a ∧ a < 64 := by have := h.1; unfold inS at this; simpa using this
    have hb : 0 ≤ b ∧ b < 64 := by have := h.2; unfold inS at this; simpa using this
    unfold hasR hasS rowSet
    rw [ic, id', Bool.true_and, Bool.true_and, Bool.true_and, Bool.true_and, Int.toNat_natCast, Int.toNat_natCast]
    by_cases e : c = a.toNat
    · rw [if_pos e]
      unfold withS
      rw [h.2, if_pos rfl, Bits.testBit_put, e]
      have e2 : (a == (a.toNat : Int)) = true := by rw [beq_iff_eq]; omega
      have e3 : decide (b.toNat = d) = (b == (d : Int)) := by rw [Bool.eq_iff_iff, decide_eq_true_iff, beq_iff_eq]; omega
      rw [e2, e3, Bool.true_and]
    · rw [if_neg e]
      have e2 : (a == (c : Int)) = false := by rw [beq_eq_false_iff_ne]; omega
      rw [e2, Bool.false_and, Bool.or_false]
  · rename_i h
    have : (a == (c : Int) && b == (d : Int)) = false := by
      rw [Bool.and_eq_false_iff]
      by_cases e : a = (c : Int)
      · right
        rw [beq_eq_false_iff_ne]
        intro e2
        exact h (by rw [e, e2, ic, id']; rfl)
      · left; rw [beq_eq_false_iff_ne]; exact e
    rw [this, Bool.or_false]
theorem frTo_bit (M : WM) (i : Nat) (ys : List Opn) (F : Nat → Nat) (a k : Nat) (ha : a < 64) (hk : k < 64) : ∀ j, hasR (frTo M i ys F j) (a : Int) (k : Int) = (hasR F (a : Int) (k : Int) || (decide (i = k) && (rdTo M i ys j).any fun p => p.2 == (a : Int)))
  | 0 => by simp [frTo, rdTo]
  | j + 1 => by
    have ih := frTo_bit M i ys F a k ha hk j
    unfold frTo rdTo
    by_cases e : fromOf M (ys.getD j opZero) = (i : Int)
    · rw [if_pos e, if_pos e, ih, List.append_nil]
    · rw [if_neg e, if_neg e, addR_bit _ _ _ _ _ ha hk, ih, List.any_append]
      have e3 : ((i : Int) == (k : Int)) = decide (i = k) := by rw [Bool.eq_iff_iff, decide_eq_true_iff, beq_iff_eq]; omega
      rw [e3]
      simp only [List.any_cons, List.any_nil, Bool.or_false]
      cases decide (i = k) <;> simp [Bool.or_assoc]
/-- What transaction k reads of others, whole. -/
def rdOf (M : WM) (hs : List Txr) (k : Nat) : List (Int × Int) := rdTo M k (rOf hs k) (rOf hs k).length
def fromB (M : WM) (hs : List Txr) (i k : Nat) : Bool := (rdOf M hs k).any fun p => p.2 == (i : Int)
theorem frAll_bit (M : WM) (hs : List Txr) (a k : Nat) (ha : a < 64) (hk : k < 64) : ∀ n, hasR (frAll M hs n) (a : Int) (k : Int) = (decide (k < n) && fromB M hs a k)
  | 0 => by
    show hasR (fun _ => 0) _ _ = _
    unfold hasR hasS
    simp
  | n + 1 => by
    unfold frAll
    rw [frTo_bit _ _ _ _ _ _ ha hk, frAll_bit M hs a k ha hk n]
    by_cases e : n = k
    · subst e
      rw [decide_eq_false (show ¬ n < n by omega), decide_eq_true rfl, decide_eq_true (show n < n + 1 by omega), Bool.false_and, Bool.false_or, Bool.true_and, Bool.true_and]
      rfl
    · rw [decide_eq_false e, Bool.false_and, Bool.or_false]
      by_cases e2 : k < n
      · rw [decide_eq_true e2, decide_eq_true (show k < n + 1 by omega)]
      · rw [decide_eq_false e2, decide_eq_false (show ¬ k < n + 1 by omega)]
theorem rsAll_at (M : WM) (hs : List Txr) (n i : Nat) (h : i < n) : rsAll M hs n i = rdOf M hs i := by unfold rsAll; rw [if_pos h]; rfl
/-- None reads of itself. -/
theorem rdTo_other (M : WM) (i : Nat) (ys : List Opn) : ∀ j, ∀ p ∈ rdTo M i ys j, p.2 ≠ (i : Int)
  | 0, p, h => by cases h
  | j + 1, p, h => by
    unfold rdTo at h
    rcases List.mem_append.1 h with h | h
    · exact rdTo_other M i ys j p h
    · split at h
      · cases h
      · rename_i hn
        rw [List.mem_singleton] at h
        rw [h]; exact hn
theorem fromB_self (M : WM) (hs : List Txr) (i : Nat) : fromB M hs i i = false := by
  unfold fromB
  rw [List.any_eq_false]
  intro p hp
  simp [rdTo_other M i _ _ p hp]
/-! ### Who writes to the same key -/
theorem wOf_mem {hs : List Txr} {i : Nat} {x : Opn} (h : x ∈ wOf hs i) : (0 ≤ x.key ∧ x.key < 64) ∧ x.wr = true ∧ ∃ j, j < (hs.getD i txrZero).ops.length ∧ (hs.getD i txrZero).ops.getD j opZero = x := by
  unfold wOf at h
  obtain ⟨h1, h2⟩ := (mem_writesR _ _ _).1 h
  have h3 := lastW_mem (Nat.le_refl _) h2
  exact ⟨h1, h3.2.1, lastW_in h2⟩
theorem wr_pos {hs : List Txr} (hm : mayH hs = true) {i : Nat} (hi : i < hs.length) {x : Opn} (h : x ∈ wOf hs i) : 0 < x.val := by
  obtain ⟨_, hw, j, hj, hx⟩ := wOf_mem h
  have h1 := all_iff.1 ((may_iff hs).1 hm).1 i hi
  unfold txrOkB txnOk at h1
  rw [Bool.and_eq_true] at h1
  have h2 := may_at h1.2 hj
  rw [hx] at h2
  unfold opOk at h2
  rw [hw] at h2
  simp only [Bool.and_eq_true, decide_eq_true_eq, Bool.not_true, Bool.false_or] at h2
  exact h2.2
theorem firstVal_no : ∀ {l : List Opn} {k : Int}, (∀ x ∈ l, x.key ≠ k) → firstVal l k = 0
  | [], _, _ => rfl
  | x :: l, k, h => by
    unfold firstVal
    rw [if_neg (h x (List.mem_cons_self ..))]
    exact firstVal_no fun y hy => h y (List.mem_cons_of_mem _ hy)
theorem wkB_iff {hs : List Txr} (hm : mayH hs = true) {i : Nat} (hi : i < hs.length) (k : Int) : wkB hs i k = (wOf hs i).any fun x => x.key == k := by
  unfold wkB valR
  rw [show writesR (hs.getD i txrZero).ops 64 = wOf hs i from rfl, Bool.eq_iff_iff, List.any_eq_true]
  constructor
  · intro h
    by_cases e : ∃ x, x ∈ wOf hs i ∧ x.key = k
    · obtain ⟨x, h1, h2⟩ := e
      exact ⟨x, h1, by rw [beq_iff_eq]; exact h2⟩
    · rw [firstVal_no fun x hx hk => e ⟨x, hx, hk⟩] at h
      cases h
  · rintro ⟨x, h1, h2⟩
    rw [beq_iff_eq] at h2
    have h3 := firstVal_mem (writesR_rise _ 64) h1
    have h4 := wr_pos hm hi h1
    rw [h2] at h3
    rw [show writesR (hs.getD i txrZero).ops 64 = wOf hs i from rfl] at h3
    rw [h3]
    simp
    omega
theorem wTo_bit (i : Nat) (ys : List Opn) (f : Int → Option Nat) (k : Int) (a : Nat) (hi : i < 64) : ∀ j, j ≤ ys.length → ((wTo i ys f j k).getD 0).testBit a = (((f k).getD 0).testBit a || (decide (i = a) && (ys.take j).any fun x => x.key == k))
  | 0, _ => by simp [wTo]
  | j + 1, hj => by
    have ih := wTo_bit i ys f k a hi j (by omega)
    unfold wTo
    rw [List.take_add_one, List.any_append, List.getElem?_eq_getElem (by omega), List.getD_eq_getElem?_getD, List.getElem?_eq_getElem (by omega), Option.getD_some, Option.toList_some]
    obtain ⟨y, hy⟩ : ∃ y, ys[j]'(by omega) = y := ⟨_, rfl⟩
    rw [hy]
    unfold putN
    by_cases e : k = y.key
    · subst e
      rw [if_pos rfl, Option.getD_some]
      unfold withS
      rw [show inS (i : Int) = true from by unfold inS; exact decide_eq_true (by omega), if_pos rfl, Bits.testBit_put, Int.toNat_natCast, ih]
      simp
      cases ((f y.key).getD 0).testBit a <;> cases decide (i = a) <;> simp
    · rw [if_neg e, ih]
      have : (y.key == k) = false := by rw [beq_eq_false_iff_ne]; exact fun e2 => e e2.symm
      simp [this]
def wkO (hs : List Txr) (i : Nat) (k : Int) : Bool := (wOf hs i).any fun x => x.key == k
theorem wF_bit (hs : List Txr) (k : Int) (a : Nat) : ∀ n, n ≤ 64 → ((wF hs n k).getD 0).testBit a = (decide (a < n) && wkO hs a k)
  | 0, _ => by simp [wF]
  | n + 1, hn => by
    unfold wF
    rw [wTo_bit _ _ _ _ _ (by omega) _ (Nat.le_refl _), wF_bit hs k a n (by omega), List.take_length]
    by_cases e : n = a
    · subst e
      simp [wkO]
    · rw [decide_eq_false e, Bool.false_and, Bool.or_false]
      by_cases e2 : a < n
      · rw [decide_eq_true e2, decide_eq_true (show a < n + 1 by omega)]
      · rw [decide_eq_false e2, decide_eq_false (show ¬ a < n + 1 by omega)]
/-- The sets of some keys, put together. -/
def rivS (f : Int → Option Nat) (l : List Int) : Nat → Nat
  | 0 => 0
  | j + 1 => rivS f l j ||| (f (l.getD j 0)).getD 0
theorem rivS_lt {f : Int → Option Nat} (h : SetsOK f) (l : List Int) : ∀ j, rivS f l j < 18446744073709551616
  | 0 => by show 0 < 18446744073709551616; decide
  | j + 1 => or_ok (rivS_lt h l j) (h _)
theorem rivS_bit (f : Int → Option Nat) (l : List Int) (a : Nat) : ∀ j, j ≤ l.length → (rivS f l j).testBit a = (l.take j).any fun k => ((f k).getD 0).testBit a
  | 0, _ => by simp [rivS]
  | j + 1, hj => by
    unfold rivS
    rw [Nat.testBit_or, rivS_bit f l a j (by omega), List.take_add_one, List.any_append, List.getElem?_eq_getElem (by omega), List.getD_eq_getElem?_getD, List.getElem?_eq_getElem (by omega)]
    simp
/-- The rivals of one, by the program. -/
def rivO (f : Int → Option Nat) (l : List Int) (i : Int) : Nat := withoutS (rivS f l l.length) i
theorem rivO_lt {f : Int → Option Nat} (h : SetsOK f) (l : List Int) (i : Int) : rivO f l i < 18446744073709551616 := withoutS_lt _ _ (rivS_lt h l _)
theorem hasS_without (X i k : Nat) (hi : i < 64) (hk : k < 64) : hasS (withoutS X (i : Int)) (k : Int) = (X.testBit k && !decide (i = k)) := by
  have h1 : inS (i : Int) = true := by unfold inS; exact decide_eq_true (by omega)
  have h2 : inS (k : Int) = true := by unfold inS; exact decide_eq_true (by omega)
  unfold hasS withoutS
  rw [h1, h2, if_pos rfl, Bool.true_and, Bits.testBit_del, Int.toNat_natCast, Int.toNat_natCast]
theorem rivO_is {hs : List Txr} (hm : mayH hs = true) (hn : hs.length ≤ 64) {i k : Nat} (hi : i < hs.length) (hk : k < hs.length) : hasS (rivO (wF hs hs.length) ((wOf hs i).map Opn.key) (i : Int)) (k : Int) = rivB hs i k := by
  have e1 : (!decide (i = k)) = (i != k) := by by_cases e : i = k <;> simp [e]
  have hi64 : i < 64 := by omega
  have hk64 : k < 64 := by omega
  have h3 : rivB hs i k = (i != k && (List.range 64).any fun q => wkB hs i (q : Int) && wkB hs k (q : Int)) := by unfold rivB; rfl
  have h4 := fun q : Int => wkB_iff hm hi q
  have h5 := fun q : Int => wkB_iff hm hk q
  have h6 := fun q : Int => wF_bit hs q k hs.length hn
  have h7 : ∀ x ∈ wOf hs i, 0 ≤ x.key ∧ x.key < 64 := fun x hx => (wOf_mem hx).1
  have h8 : ∀ q : Int, ((wF hs hs.length q).getD 0).testBit k = wkO hs k q := fun q => by rw [h6, decide_eq_true hk, Bool.true_and]
  have h9 : ∀ q : Int, wkB hs k q = wkO hs k q := h5
  have h10 := fun l => rivS_bit (wF hs hs.length) l k l.length (Nat.le_refl _)
  unfold rivO
  rw [hasS_without _ _ _ hi64 hk64, h10, List.take_length, h3, Bool.and_comm, e1]
  clear h3 e1 hm h5 h6 h10
  generalize wF hs hs.length = f at h8 ⊢
  have h11 : ((List.map Opn.key (wOf hs i)).any fun q => ((f q).getD 0).testBit k) = ((List.range 64).any fun q => wkB hs i (q : Int) && wkB hs k (q : Int)) := by
    rw [Bool.eq_iff_iff, List.any_eq_true, List.any_eq_true]
    constructor
    · rintro ⟨q, h1, h2⟩
      rw [List.mem_map] at h1
      obtain ⟨x, hx1, rfl⟩ := h1
      have hx := h7 x hx1
      rw [h8] at h2
      refine ⟨x.key.toNat, List.mem_range.2 (by omega), ?_⟩
      rw [show ((x.key.toNat : Nat) : Int) = x.key by omega, h4, h9, h2, Bool.and_true, List.any_eq_true]
      exact ⟨x, hx1, beq_self_eq_true _⟩
    · rintro ⟨q, h1, h2⟩
      rw [h4, h9, Bool.and_eq_true, List.any_eq_true] at h2
      obtain ⟨⟨x, hx1, hx2⟩, h2⟩ := h2
      rw [beq_iff_eq] at hx2
      exact ⟨(q : Int), List.mem_map.2 ⟨x, hx1, hx2⟩, by rw [h8]; exact h2⟩
  rw [h11]
end Go.Proofs.Ytobfanodjdkkoaa
end

section
/- Who comes ahead of whom never comes back: in plain words. No condition but each theorem's own. -/
set_option linter.unusedVariables false
set_option linter.unusedSimpArgs false
namespace Go.Proofs.Ytobfanodjdkkoaa
open Go.RowKit Go.Maps

/-- Each step rises. -/
def Rises (φ : Nat → Int) (r : Nat → Nat) : Prop := ∀ a b : Nat, (r a).testBit b = true → φ a < φ b
theorem hasS_bit {s k : Nat} (h : hasS s (k : Int) = true) : s.testBit k = true := by
  unfold hasS at h
  rw [Bool.and_eq_true, Int.toNat_natCast] at h
  exact h.2
theorem innerC_rises {φ : Nat → Int} {r : Nat → Nat} (h : Rises φ r) (k : Nat) : ∀ i, Rises φ (innerC r k i)
  | 0 => h
  | i + 1 => by
    have ih := innerC_rises h k i
    unfold innerC
    split
    · rename_i hk
      have hk2 := hasS_bit hk
      intro a b hb
      unfold rowSet at hb
      split at hb
      · rename_i e
        subst e
        rw [Nat.testBit_or, Bool.or_eq_true] at hb
        rcases hb with hb | hb
        · exact ih _ _ hb
        · exact Int.lt_trans (ih _ _ hk2) (ih _ _ hb)
      · exact ih a b hb
    · exact ih
theorem closeR_rises {φ : Nat → Int} {r : Nat → Nat} (h : Rises φ r) : ∀ k, Rises φ (closeR r k)
  | 0 => h
  | k + 1 => innerC_rises (closeR_rises h k) k 64
theorem acy_of_rises {φ : Nat → Int} {r : Nat → Nat} (h : Rises φ r) : acyR r = true := by
  unfold acyR
  refine all_yes fun i hi => ?_
  cases e : hasS (closeR r 64 i) (i : Int) with
  | false => rfl
  | true => exact absurd (closeR_rises h 64 i i (hasS_bit e)) (Int.lt_irrefl _)
theorem pairs_testBit {q : Nat → Nat → Bool} {n a b : Nat} (h : (pairsR q n a).testBit b = true) : a < n ∧ b < n ∧ a ≠ b ∧ q a b = true := by
  unfold pairsR at h
  split at h
  · rename_i ha
    rw [rowB_bit, Bool.and_eq_true, Bool.and_eq_true] at h
    exact ⟨ha, of_decide_eq_true h.1, by simpa using h.2.1, h.2.2⟩
  · simp at h
theorem pairs_testBit2 {q : Nat → Nat → Bool} {n a b : Nat} (ha : a < n) (hb : b < n) (hab : a ≠ b) (h : q a b = true) : (pairsR q n a).testBit b = true := by
  unfold pairsR
  rw [if_pos ha, rowB_bit, decide_eq_true hb, h]
  simp [hab]
theorem ses_acy (hs : List Txr) (n : Nat) : acyR (pairsR (sesB hs) n) = true := by
  refine acy_of_rises (φ := fun a => (a : Int)) fun a b h => ?_
  have := (pairs_testBit h).2.2.2
  unfold sesB at this
  rw [Bool.and_eq_true] at this
  have := of_decide_eq_true this.1
  show (a : Int) < b
  omega
theorem may_head {hs : List Txr} (h : mayH hs = true) {i : Nat} (hi : i < hs.length) : (hs.getD i txrZero).beg < (hs.getD i txrZero).com := by
  have h1 := all_iff.1 ((may_iff hs).1 h).1 i hi
  unfold txrOkB txnOk at h1
  rw [Bool.and_eq_true] at h1
  have h3 := h1.1
  unfold headOk at h3
  simp only [Bool.and_eq_true, decide_eq_true_eq] at h3
  exact h3.1.1.1.2
theorem time_acy {hs : List Txr} (h : mayH hs = true) : acyR (pairsR (timeB hs) hs.length) = true := by
  refine acy_of_rises (φ := fun a => (hs.getD a txrZero).com) fun a b hb => ?_
  obtain ⟨_, h1, _, h2⟩ := pairs_testBit hb
  unfold timeB at h2
  have h3 := of_decide_eq_true h2
  have h4 := may_head h h1
  show (hs.getD a txrZero).com < (hs.getD b txrZero).com
  omega
theorem ses_time {hs : List Txr} (h : mayH hs = true) {i k : Nat} (hi : i < hs.length) (hk : k < hs.length) (hs1 : sesB hs i k = true) : timeB hs i k = true := by
  unfold sesB at hs1
  rw [Bool.and_eq_true, beq_iff_eq] at hs1
  have h1 := of_decide_eq_true hs1.1
  have h2 := ((may_iff hs).1 h).2.1 k hk i h1
  unfold apartB at h2
  unfold timeB
  rw [decide_eq_true_iff]
  simp only [Bool.and_eq_true, Bool.not_eq_true', Bool.or_eq_false_iff, Bool.and_eq_false_iff, beq_eq_false_iff_ne, decide_eq_false_iff_not] at h2
  rcases h2.2 with h3 | h3
  · exact absurd hs1.2 h3
  · have := h2.1.2.2.1
    omega
theorem within_of {s t : Nat} (h : ∀ i, s.testBit i = true → t.testBit i = true) : withinS s t = true := by
  unfold withinS
  rw [beq_iff_eq]
  apply Nat.eq_of_testBit_eq
  intro i
  rw [Nat.testBit_xor, Nat.testBit_and, Nat.zero_testBit]
  cases e : s.testBit i with
  | false => simp
  | true => rw [h i e]; rfl
theorem ses_within {hs : List Txr} (h : mayH hs = true) : withinR (pairsR (sesB hs) hs.length) (pairsR (timeB hs) hs.length) = true := by
  unfold withinR
  refine all_yes fun i _ => within_of fun k hk => ?_
  obtain ⟨h1, h2, h3, h4⟩ := pairs_testBit hk
  exact pairs_testBit2 h1 h2 h3 (ses_time h h1 h2 h4)
end Go.Proofs.Ytobfanodjdkkoaa
end

section
/- How many write to any key: in plain words. No condition but each theorem's own. -/
set_option linter.unusedVariables false
set_option linter.unusedSimpArgs false
namespace Go.Proofs.Ytobfanodjdkkoaa
open Go.RowKit Go.Maps

theorem filt_one (p : Nat → Bool) (i : Nat) (hp : p i = false) : ∀ n, ((List.range n).filter fun a => p a || decide (i = a)).length = ((List.range n).filter p).length + if i < n then 1 else 0
  | 0 => rfl
  | n + 1 => by
    rw [List.range_succ, List.filter_append, List.filter_append, List.length_append, List.length_append, filt_one p i hp n]
    by_cases e : i = n
    · subst e
      rw [if_neg (by omega), if_pos (by omega)]
      simp [hp]
    · by_cases e2 : i < n
      · rw [if_pos e2, if_pos (by omega)]
        simp [e, List.filter_cons]
        split <;> omega
      · rw [if_neg e2, if_neg (by omega)]
        simp [e, List.filter_cons]
theorem count_with {s i : Nat} (hi : i < 64) (h : s.testBit i = false) : Bits.count (withS s (i : Int)) = Bits.count s + 1 := by
  unfold withS
  rw [show inS (i : Int) = true from by unfold inS; exact decide_eq_true (by omega), if_pos rfl, Int.toNat_natCast]
  unfold Bits.count Bits.list
  have h1 := filt_one (fun a => s.testBit a) i h 64
  rw [if_pos hi] at h1
  rw [← h1]
  congr 2
  funext a
  rw [Bits.testBit_put]
def cntQ (f : Int → Option Nat) (q : Int) : Nat := Bits.count ((f q).getD 0)
def sumQ (f : Int → Option Nat) : Nat → Nat
  | 0 => 0
  | q + 1 => sumQ f q + cntQ f (q : Int)
theorem sumQ_out (f : Int → Option Nat) (k : Int) (s : Nat) : ∀ N : Nat, (N : Int) ≤ k → sumQ (putN f k s) N = sumQ f N
  | 0, _ => rfl
  | N + 1, h => by
    unfold sumQ
    rw [sumQ_out f k s N (by omega)]
    unfold cntQ putN
    rw [if_neg (by omega)]
theorem sumQ_put (f : Int → Option Nat) (k : Int) (s : Nat) (h0 : 0 ≤ k) : ∀ N : Nat, k < N → sumQ (putN f k s) N + cntQ f k = sumQ f N + Bits.count s
  | 0, h => by omega
  | N + 1, h => by
    unfold sumQ
    by_cases e : k = (N : Int)
    · rw [sumQ_out f k s N (by omega)]
      have : cntQ (putN f k s) (N : Int) = Bits.count s := by unfold cntQ putN; rw [if_pos e.symm]; rfl
      rw [this, e]
      omega
    · have ih := sumQ_put f k s h0 N (by omega)
      have : cntQ (putN f k s) (N : Int) = cntQ f (N : Int) := by unfold cntQ putN; rw [if_neg (fun e2 => e e2.symm)]
      omega
theorem sumQ_to (i : Nat) (ys : List Opn) (f : Int → Option Nat) (hi : i < 64) (hf : ∀ k, ((f k).getD 0).testBit i = false) (hp : ys.Pairwise (fun x y => x.key < y.key)) (hk : ∀ x ∈ ys, 0 ≤ x.key ∧ x.key < 64) : ∀ j, j ≤ ys.length → sumQ (wTo i ys f j) 64 = sumQ f 64 + j
  | 0, _ => rfl
  | j + 1, hj => by
    have ih := sumQ_to i ys f hi hf hp hk j (by omega)
    obtain ⟨y, hy⟩ : ∃ y, ys.getD j opZero = y := ⟨_, rfl⟩
    have hm : y ∈ ys := by rw [← hy]; exact getD_mem (by omega)
    have hbit : ((wTo i ys f j y.key).getD 0).testBit i = false := by
      rw [wTo_bit i ys f y.key i hi j (by omega), hf, decide_eq_true rfl, Bool.false_or, Bool.true_and, List.any_eq_false]
      intro x hx
      rw [List.mem_take_iff_getElem] at hx
      obtain ⟨q, hq, rfl⟩ := hx
      have hq2 : q < j ∧ q < ys.length := by omega
      have := List.pairwise_iff_getElem.1 hp q j hq2.2 (by omega) hq2.1
      rw [List.getD_eq_getElem?_getD, List.getElem?_eq_getElem (by omega), Option.getD_some] at hy
      rw [hy] at this
      rw [beq_iff_eq]
      omega
    have h1 := sumQ_put (wTo i ys f j) y.key (withS ((wTo i ys f j y.key).getD 0) (i : Int)) (hk y hm).1 64 (hk y hm).2
    have h2 := count_with hi hbit
    unfold wTo
    rw [hy]
    unfold cntQ at h1
    omega
def lenTo (hs : List Txr) : Nat → Nat
  | 0 => 0
  | n + 1 => lenTo hs n + (wOf hs n).length
theorem sumQ_all (hs : List Txr) : ∀ n, n ≤ 64 → sumQ (wF hs n) 64 = lenTo hs n
  | 0, _ => by show sumQ (fun _ => none) 64 = 0; decide
  | n + 1, hn => by
    unfold wF lenTo
    rw [sumQ_to n (wOf hs n) (wF hs n) (by omega) (fun k => by rw [wF_bit hs k n n (by omega), decide_eq_false (by omega), Bool.false_and]) (writesR_rise _ 64) (fun x hx => (wOf_mem hx).1) _ (Nat.le_refl _), sumQ_all hs n (by omega)]
theorem lenTo_le (hs : List Txr) : ∀ n, lenTo hs n ≤ 64 * n
  | 0 => Nat.le_refl _
  | n + 1 => by
    have := lenTo_le hs n
    have h2 : (wOf hs n).length ≤ 64 := writesR_len _ 64
    unfold lenTo; omega
/-- The keys of the map are those that are written to. -/
theorem wTo_some (i : Nat) (ys : List Opn) (f : Int → Option Nat) (hf : ∀ k, (f k).isSome = true → 0 ≤ k ∧ k < 64) (hk : ∀ x ∈ ys, 0 ≤ x.key ∧ x.key < 64) : ∀ j, j ≤ ys.length → ∀ k, (wTo i ys f j k).isSome = true → 0 ≤ k ∧ k < 64
  | 0, _, k, h => hf k h
  | j + 1, hj, k, h => by
    unfold wTo putN at h
    split at h
    · rename_i e
      rw [e]
      exact hk _ (getD_mem (by omega))
    · exact wTo_some i ys f hf hk j (by omega) k h
theorem wF_some (hs : List Txr) (n : Nat) : ∀ k, (wF hs n k).isSome = true → 0 ≤ k ∧ k < 64 := by
  induction n with
  | zero => intro k h; unfold wF at h; cases h
  | succ n ih =>
    intro k h
    unfold wF at h
    have h2 : ∀ x ∈ wOf hs n, 0 ≤ x.key ∧ x.key < 64 := fun x hx => (wOf_mem hx).1
    generalize wF hs n = f at h ih
    generalize wOf hs n = L at h h2
    exact wTo_some n L f ih h2 _ (Nat.le_refl _) k h
/-- What is left of the sum. -/
def sumL (f : Int → Option Nat) (left : Int → Bool) : Nat → Nat
  | 0 => 0
  | q + 1 => sumL f left q + if left (q : Int) then cntQ f (q : Int) else 0
theorem sumL_start (f : Int → Option Nat) : ∀ N, sumL f (fun k => (f k).isSome) N = sumQ f N
  | 0 => rfl
  | N + 1 => by
    unfold sumL sumQ
    rw [sumL_start f N]
    have h : (if (f (N : Int)).isSome = true then cntQ f (N : Int) else 0) = cntQ f (N : Int) := by
      split
      · rfl
      · rename_i h
        unfold cntQ
        cases e : f (N : Int) with
        | none => decide
        | some s => rw [e] at h; exact absurd rfl h
    rw [h]
theorem sumL_end (f : Int → Option Nat) {left : Int → Bool} (h : ∀ k, left k = false) : ∀ N, sumL f left N = 0
  | 0 => rfl
  | N + 1 => by unfold sumL; rw [sumL_end f h N, h]; rfl
theorem sumL_out (f : Int → Option Nat) (left : Int → Bool) (k : Int) : ∀ N : Nat, (N : Int) ≤ k → sumL f (fun x => left x && !decide (x = k)) N = sumL f left N
  | 0, _ => rfl
  | N + 1, h => by
    unfold sumL
    rw [sumL_out f left k N (by omega), decide_eq_false (show ¬ (N : Int) = k by omega), Bool.not_false, Bool.and_true]
theorem sumL_step (f : Int → Option Nat) (left : Int → Bool) (k : Int) (hl : left k = true) (h0 : 0 ≤ k) : ∀ N : Nat, k < N → sumL f (fun x => left x && !decide (x = k)) N + cntQ f k = sumL f left N
  | 0, h => by omega
  | N + 1, h => by
    unfold sumL
    by_cases e : k = (N : Int)
    · rw [sumL_out f left k N (by omega), decide_eq_true e.symm, ← e, hl]
      simp
    · rw [← sumL_step f left k hl h0 N (by omega), decide_eq_false (fun e2 => e e2.symm), Bool.not_false, Bool.and_true]
      omega
end Go.Proofs.Ytobfanodjdkkoaa
end

section
/- What a transaction reads of others, by the document (burgageref08.Reads). No condition but each theorem's own. -/
set_option linter.unusedVariables false
set_option linter.unusedSimpArgs false
namespace Go.Proofs.Ytobfanodjdkkoaa
open Go.RowKit Go.Maps

/-! ### Rows of two numbers each -/
theorem flatR_at (l : List (Int × Int)) : ∀ j, j < l.length → (flatR l)[j * 2]? = some (.int .i64 (l.getD j (0, 0)).1) ∧ (flatR l)[j * 2 + 1]? = some (.int .i64 (l.getD j (0, 0)).2) := by
  induction l with
  | nil => intro j h; simp at h
  | cons p l ih =>
    intro j h
    cases j with
    | zero => exact ⟨rfl, rfl⟩
    | succ j =>
      have := ih j (by simpa using h)
      rw [show (j + 1) * 2 = j * 2 + 2 from by omega]
      simpa [flatR] using this
def OwnP (w : World) (base e : Nat) (v : Value) (xs : List (Int × Int)) : Prop := w.ownsRow base e 2 v xs.length (flatR xs)
/-- A slice value reads as this list of pairs. -/
def Prs (w : World) (v : Value) (xs : List (Int × Int)) : Prop :=
  ∃ A c, v = .slice A xs.length c ∧ (xs.length ≤ c ∧ xs.length ≤ 9223372036854775807) ∧ ∀ j, j < xs.length → ∃ ad, A = some ad ∧ w.cell? (ad.add (j * 2)) = some (.int .i64 (xs.getD j (0, 0)).1) ∧ w.cell? ⟨(ad.add (j * 2)).block, (ad.add (j * 2)).off + 1, none⟩ = some (.int .i64 (xs.getD j (0, 0)).2)
theorem OwnP.prs {w : World} {base e : Nat} {v : Value} {xs : List (Int × Int)} (h : OwnP w base e v xs) : Prs w v xs := by
  have h0 := h.2
  rcases h0 with ⟨hv, hn⟩ | ⟨g, cap, cur, hv, hb, hg, hle2, hcap, hsz, htake⟩
  · have : xs = [] := List.eq_nil_of_length_eq_zero hn
    subst this
    exact ⟨none, 0, hv, by simp, fun j h => absurd h (by simp)⟩
  · refine ⟨_, _, hv, ⟨hle2, by unfold maxLen at hcap; omega⟩, fun j hj => ⟨_, rfl, ?_⟩⟩
    have hc := World.ownsRow.cells h (g := g) (by rw [hv]; rfl)
    have hf := flatR_at xs j hj
    rw [add_next _ _ _ (by omega)]
    exact ⟨hc _ _ hf.1, hc _ _ hf.2⟩
theorem Prs.keep {w w' : World} {v : Value} {xs : List (Int × Int)} (h : Prs w v xs) (hc : Ch nob w w') : Prs w' v xs := by
  obtain ⟨A, c, rfl, hl, hx⟩ := h
  refine ⟨A, c, rfl, hl, fun j hj => ?_⟩
  obtain ⟨ad, rfl, h1, h2⟩ := hx j hj
  have keep : ∀ p v, w.cell? p = some v → w'.cell? p = some v := fun p v h1 => (World.cell?_of_block (hc.block _ (World.block_lt_of_cell? w _ h1) (fun h => h))).trans h1
  exact ⟨ad, rfl, keep _ _ h1, keep _ _ h2⟩
theorem Prs.shape {w : World} {v : Value} {xs : List (Int × Int)} (h : Prs w v xs) : ∃ A c, v = .slice A xs.length c := by
  obtain ⟨A, c, rfl, _, _⟩ := h; exact ⟨A, c, rfl⟩
theorem Prs.at {w : World} {A : Option Addr} {c n : Nat} {xs : List (Int × Int)} (h : Prs w (.slice A n c) xs) : n = xs.length ∧ (xs.length ≤ c ∧ xs.length ≤ 9223372036854775807) ∧ ∀ j, j < xs.length → ∃ ad, A = some ad ∧ w.cell? (ad.add (j * 2)) = some (.int .i64 (xs.getD j (0, 0)).1) ∧ w.cell? ⟨(ad.add (j * 2)).block, (ad.add (j * 2)).off + 1, none⟩ = some (.int .i64 (xs.getD j (0, 0)).2) := by
  obtain ⟨A', c', hv, hl, hx⟩ := h
  simp only [Value.slice.injEq] at hv
  obtain ⟨rfl, rfl, rfl⟩ := hv
  exact ⟨rfl, hl, hx⟩
theorem OwnP.made (w : World) (base e : Nat) (hb : base ≤ w.heap.size) : OwnP (w.alloc (.cells #[] e)) base e (.slice (some ⟨w.heap.size, 0, none⟩) 0 0) [] :=
  World.ownsRow_made w #[] 0 hb (by unfold maxLen; omega) (by simp)
theorem OwnP.to {w : World} {base e : Nat} {v : Value} {xs ys : List (Int × Int)} (h : OwnP w base e v xs) (he : xs = ys) : OwnP w base e v ys := he ▸ h
theorem OwnP.keep {w w' : World} {base e : Nat} {v : Value} {xs : List (Int × Int)} (h : OwnP w base e v xs) (hc : Ch nob w w') : OwnP w' base e v xs := row_keep h hc
theorem OwnP.alloc {w : World} {base e : Nat} {v : Value} {xs : List (Int × Int)} (h : OwnP w base e v xs) (o : Obj) : OwnP (w.alloc o) base e v xs := World.ownsRow.alloc h o
theorem OwnP.ge {w : World} {base e : Nat} {v : Value} {xs : List (Int × Int)} (h : OwnP w base e v xs) (b : Nat) (hb : v.ownBlock = some b) : base ≤ b ∧ b < w.heap.size := World.ownsRow.lt h b hb
theorem wpList_append_pr {P : Program} {w : World} {ops : Array Oper} {rest : List Oper} {o : Oper} {a : Act} {Q : Exit → Act → World → Prop} (hgd : o.guard = none) (s x : Operand) (t e : TypeId)
    (ho : o.op = .call { callee := .builtin .append, args := #[s, x], argTypes := #[t, t] }) (he : ElemOK P t e (.agg #[.int .i64 0, .int .i64 0]) 2 16)
    (base : Nat) (v : Value) (xs : List (Int × Int)) (hs : a.eval s = v) (hown : OwnP w base e v xs)
    (g : Nat) (y : Int × Int) (T : TypeId) (hx : a.eval x = .slice (some ⟨g, 0, none⟩) 1 1) (hb : Blk w g #[.int .i64 y.1, .int .i64 y.2] T) (hn : xs.length ≤ 1000000) (hbase : base ≤ w.heap.size)
    (h : ∀ v' w', OwnP w' base e v' (xs ++ [y]) → w.grownBy w' v.ownBlock → wpList P ops Q rest (a.put o.dst v') w') : wpList P ops Q (o :: rest) a w :=
  wpList_append1 hgd s x t e ho (.agg #[.int .i64 0, .int .i64 0]) 2 16 he rfl (by decide) (by decide) base v xs.length _ hs hown g _ T hx hb rfl (by intro u hu; simp at hu; rcases hu with rfl | rfl <;> rfl) (by omega) hbase
    (fun v' w' h1 h2 => h v' w' (by
      unfold OwnP
      rw [flatR_append, List.length_append]
      exact h1) h2)
theorem elem_r8 : ElemOK Try.prog 59 64 (.agg #[.int .i64 0, .int .i64 0]) 2 16 := ⟨by kernel_rfl, by kernel_rfl⟩
theorem may_len {hs : List Txr} (h : mayH hs = true) {i : Nat} (hi : i < hs.length) : (hs.getD i txrZero).ops.length ≤ 64 := by
  have h1 := all_iff.1 ((may_iff hs).1 h).1 i hi
  unfold txrOkB txnOk at h1
  rw [Bool.and_eq_true] at h1
  have h3 := h1.1
  unfold headOk at h3
  simp only [Bool.and_eq_true, decide_eq_true_eq] at h3
  exact h3.2
/-- The writer of what is read, by the document: what the program says. -/
theorem writer_of (w : World) (v : Value) (hs : List Txr) (M : WM) (i : Nat) (x : Opn) (k u fr : Int) (hv : Txns w v hs) (hn : countTo hs hs.length ≤ 1000000) (hm : mayH hs = true) (hM : histF hs hs.length = some M) (hi : i < hs.length) (hx : x ∈ rOf hs i) (hk : x.key = k) (hu : x.val = u) (h0 : u ≠ 0) (hf : fromOf M x = fr) :
    Calls Try.prog 57 #[v, .int .i64 k, .int .i64 u] w fun e w' => e = .returned (.int .i64 fr) ∧ Ch nob w w' := by
  refine (writer_ref06 w v hs k u hv hn).mono ?_
  rintro e w' ⟨z, rfl, hz, hc⟩
  subst hk hu
  rw [from_is hm hM hi hx h0 hz] at hf
  rw [hf]
  exact ⟨rfl, hc⟩
def RetPairs (w : World) (T : TypeId) (xs : List (Int × Int)) (e : Ending) (w' : World) : Prop := ∃ v, e = .returned v ∧ OwnP w' w.heap.size T v xs ∧ Ch nob w w'
theorem row_off_op {w w' : World} {base e b2 e2 : Nat} {v u : Value} {xs : List Opn} {ys : List (Int × Int)} (h : OwnO w base e v xs) (k : OwnP w b2 e2 u ys) (hne : e ≠ e2) (hg : w.grownBy w' u.ownBlock) : OwnO w' base e v xs :=
  h.grown hg fun b hb hq => row_row_ne (w := w) h k hne b hb hq
set_option maxRecDepth 100000 in
set_option maxHeartbeats 4000000 in
theorem reads_ref08 (w : World) (v : Value) (hs : List Txr) (i : Nat) (M : WM) (hv : Txns w v hs) (hn : countTo hs hs.length ≤ 1000000) (hm : mayH hs = true) (hM : histF hs hs.length = some M) (hi : i < hs.length) :
    Calls Try.prog 28 #[v, .int .i64 i] w (RetPairs w 64 (rdOf M hs i)) := by
  obtain ⟨A, cp, rfl⟩ := hv.shape
  have hc0 : Ch nob w (w.alloc (.cells #[] 64)) := (Ch.refl _ _).alloc _
  have hp0 := Lib.hid (OwnP.made w w.heap.size 64 (Nat.le_refl _))
  obtain ⟨ad, u, rfl, hx0, hx1, hx2, hx3, hu⟩ := (hv.keep hc0).at.2.2 i hi
  obtain ⟨A2, c2, rfl⟩ := hu.shape
  have HRD := Lib.hid (reads_ref05 _ _ _ hu (by have := may_len hm hi; omega))
  have HW := Lib.hid (fun (wr : World) (x : Opn) (k u fr : Int) (hc : Ch nob w wr) => writer_of wr _ hs M i x k u fr (hv.keep hc) hn hm hM hi)
  have HLN := Lib.hid (show (rOf hs i).length ≤ 10000 from by
    have h1 := readsR_len (hs.getD i txrZero).ops 64
    have h2 := may_len hm hi
    have h3 := Nat.mul_le_mul (Nat.le_refl 64) h2
    unfold rOf; omega)
  have HRO := Lib.hid (show rdOf M hs i = rdTo M i (rOf hs i) (rOf hs i).length from rfl)
  rw [show readsR (hs.getD i txrZero).ops 64 = rOf hs i from rfl] at HRD
  obtain ⟨l2, hl2⟩ : ∃ l, (hs.getD i txrZero).ops.length = l := ⟨_, rfl⟩
  rw [hl2] at HRD hx3
  obtain ⟨ys, hys⟩ : ∃ ys, rOf hs i = ys := ⟨_, rfl⟩
  rw [hys] at HRD HW HLN HRO
  obtain ⟨n, hn2⟩ : ∃ n, hs.length = n := ⟨_, rfl⟩
  rw [hn2] at HW hi ⊢
  clear hv hu hl2 hys hn2 hn hm hM hx0 hx1 hx2
  go_enter Try.func28, Try.ntmps28
  go_wp2_with fail
  refine HRD.out.mono ?_
  rintro e w1 ⟨v1, rfl, ho, hc1⟩
  obtain ⟨A1, c1, hv1⟩ := ho.opl.shape
  obtain ⟨q, hq⟩ : ∃ q, ys.length = q := ⟨_, rfl⟩
  have hql : q ≤ 9223372036854775807 := by rw [← hq]; exact ho.len
  have HQ := Lib.hid hq
  rw [hq] at hv1
  subst hv1
  have HO := Lib.hid ho
  have hp1 := Lib.hid (hp0.out.keep hc1)
  have hc2 := hc0.seq hc1
  have hz1 := hc1.size
  have hzz : w.heap.size ≤ w1.heap.size := hc2.size
  clear HRD ho hq hp0 hc0 hc1 hz1 hx3
  go_wp2_with fail
  obtain ⟨bs, hbs⟩ : ∃ bs, w.heap.size + 1 = bs := ⟨_, rfl⟩
  have HO2 : Hid (OwnO w1 w.heap.size 35 (.slice A1 q c1) ys) := Lib.hid (by
    have h := HO.out
    unfold OwnO at h ⊢
    refine ⟨h.1, h.2.imp id ?_⟩
    rintro ⟨g, cap, cur, h1, h2, h3⟩
    exact ⟨g, cap, cur, h1, by simp at h2; omega, h3⟩)
  clear HO hbs
  go_loopw [7, 5] (fun x y wr => ∃ j : Nat, x = .int .i64 j ∧ j ≤ q ∧ Hid (OwnP wr w.heap.size 64 y (rdTo M i ys j)) ∧ Hid (OwnO wr w.heap.size 35 (.slice A1 q c1) ys) ∧ Ch nob w wr) (fun x _ _ => q - (intOf x).toNat)
  case atStart => exact ⟨0, rfl, Nat.zero_le _, hp1, HO2, hc2⟩
  case round =>
    clear hp1 HO2 hc2
    obtain ⟨j, rfl, hj, hp, ho, hc⟩ := hrel
    by_cases hlt : j < q
    · have hd : decide ((j : Int) < (q : Int)) = true := decide_eq_true (by omega)
      obtain ⟨ad2, rfl, hy0, hy1, hy2⟩ := ho.out.opl.at.2.2 j (by rw [HQ.out]; exact hlt)
      obtain ⟨x, hx⟩ : ∃ x, ys.getD j opZero = x := ⟨_, rfl⟩
      have HMM := Lib.hid (show x ∈ ys from by rw [← hx]; exact getD_mem (by rw [HQ.out]; exact hlt))
      have HX := Lib.hid hx
      rw [hx] at hy0 hy1 hy2
      obtain ⟨xw, xk, xv⟩ := x
      obtain ⟨fr, hfr⟩ : ∃ fr, fromOf M ⟨xw, xk, xv⟩ = fr := ⟨_, rfl⟩
      have HF := Lib.hid hfr
      have HPL := Lib.hid (show (rdTo M i ys j).length ≤ 1000000 from by
        have := rdTo_len M i ys j
        have := HLN.out
        have := HQ.out
        omega)
      dsimp only at hy1 hy2
      clear hx hy0 hfr
      cases h0 : (xv != 0) with
      | false =>
        have hv0 : xv = 0 := by simpa using h0
        have HF1 : fr = -1 := by rw [← HF.out, hv0]; rfl
        subst HF1
        by_cases hne : (-1 : Int) = (i : Int)
        · omega
        · have hd2 : ((-1 : Int) != (i : Int)) = true := by rw [bne_iff_ne]; exact hne
          have hnb := Lib.hid (Blk.new wr #[.int .i64 xk, .int .i64 (-1)] 64)
          have hp5 := Lib.hid (hp.out.alloc (.cells #[.int .i64 xk, .int .i64 (-1)] 64))
          have ho5 := Lib.hid (ho.out.alloc (.cells #[.int .i64 xk, .int .i64 (-1)] 64))
          have hc5 := hc.alloc (.cells #[.int .i64 xk, .int .i64 (-1)] 64)
          have hz5 := Lib.hid hc5.size
          clear hp ho hc
          go_wp2_with (at_builtin; refine wpList_append_pr rfl (.tmp 43) (.tmp 51) 59 64 rfl elem_r8 w.heap.size _ _ rfl hp5.out _ (xk, -1) 64 rfl (by simpa using hnb.out) HPL.out hz5.out ?_; intro v3 w3 hown3 hg3; have hc6 := hc5.grown_own hg3 (fun b hb => (hp5.out.ge b hb).1))
          have hp6 := Lib.hid (hown3.to (show rdTo M i ys j ++ [(xk, -1)] = rdTo M i ys (j + 1) from by
            have := rdTo_step (M := M) (i := i) HX.out (by rw [HF.out]; exact hne)
            rw [HF.out] at this; exact this))
          have ho6 := Lib.hid (row_off_op ho5.out hp5.out (by decide) hg3)
          clear hp5 ho5 hc5 hz5 hnb hown3 hg3
          go_roundw
          case rel => exact ⟨j + 1, by go_num, by omega, hp6, ho6, hc6⟩
          case measure => simp [intOf]; omega
      | true =>
        have HNE := Lib.hid (show xv ≠ 0 from by simpa using h0)
        have H := Lib.hid (fun (uu : Ext wr) => ext_of (HW.out uu.val ⟨xw, xk, xv⟩ xk xv fr (hc.seq uu.ch) HMM.out rfl rfl HNE.out HF.out))
        have X1 := fun uu : Ext wr => Ext.cell hy1 uu
        have X2 := fun uu : Ext wr => Ext.cell hy2 uu
        go_wp2_with fail
        refine wp_region_ch (w0 := wr) (by kernel_rfl) (by kernel_rfl) (Ch.refl _ _) ?_
        repeat go_big_quiet_step (first | exact H.out _ | fail)
        refine wpQuiet_nil ?_
        rintro wq ⟨⟨_, hcq⟩, rfl⟩
        have hp2 := Lib.hid (hp.out.keep hcq)
        have ho2 := Lib.hid (ho.out.keep hcq)
        have hcw := hc.seq hcq
        obtain ⟨ad9, had9, hY0, hY1, hY2⟩ := ho2.out.opl.at.2.2 j (by rw [HQ.out]; exact hlt)
        obtain rfl := Option.some.inj had9
        rw [HX.out] at hY1
        dsimp only at hY1
        clear hp ho hc hcq X1 X2 H hy1 hy2 hY0 hY2 had9
        by_cases hne : fr = (i : Int)
        · have hd2 : (fr != (i : Int)) = false := by simp [hne]
          have hp6 := Lib.hid (hp2.out.to (rdTo_skip (M := M) (i := i) HX.out (by rw [HF.out]; exact hne)))
          clear hp2
          go_wp2_with fail
          go_roundw
          case rel => exact ⟨j + 1, by go_num, by omega, hp6, ho2, hcw⟩
          case measure => simp [intOf]; omega
        · have hd2 : (fr != (i : Int)) = true := by simp [hne]
          have hnb := Lib.hid (Blk.new wq #[.int .i64 xk, .int .i64 fr] 64)
          have hp5 := Lib.hid (hp2.out.alloc (.cells #[.int .i64 xk, .int .i64 fr] 64))
          have ho5 := Lib.hid (ho2.out.alloc (.cells #[.int .i64 xk, .int .i64 fr] 64))
          have hc5 := hcw.alloc (.cells #[.int .i64 xk, .int .i64 fr] 64)
          have hz5 := Lib.hid hc5.size
          clear hp2 ho2 hcw
          go_wp2_with (at_builtin; refine wpList_append_pr rfl (.tmp 43) (.tmp 51) 59 64 rfl elem_r8 w.heap.size _ _ rfl hp5.out _ (xk, fr) 64 rfl (by simpa using hnb.out) HPL.out hz5.out ?_; intro v3 w3 hown3 hg3; have hc6 := hc5.grown_own hg3 (fun b hb => (hp5.out.ge b hb).1))
          have hp6 := Lib.hid (hown3.to (show rdTo M i ys j ++ [(xk, fr)] = rdTo M i ys (j + 1) from by
            have := rdTo_step (M := M) (i := i) HX.out (by rw [HF.out]; exact hne)
            rw [HF.out] at this; exact this))
          have ho6 := Lib.hid (row_off_op ho5.out hp5.out (by decide) hg3)
          clear hp5 ho5 hc5 hz5 hnb hown3 hg3
          go_roundw
          case rel => exact ⟨j + 1, by go_num, by omega, hp6, ho6, hc6⟩
          case measure => simp [intOf]; omega
    · have hd : decide ((j : Int) < (q : Int)) = false := decide_eq_false (by omega)
      obtain rfl : j = q := by omega
      have hp6 := Lib.hid (hp.out.to (show rdTo M i ys j = rdOf M hs i from by rw [HRO.out, HQ.out]))
      clear hp
      go_wp2_with fail
      go_ret
      exact ⟨_, rfl, hp6.out, hc⟩
end Go.Proofs.Ytobfanodjdkkoaa
end

section
/- Who reads of whom, and is it sound, by the document (burgageref08.From, Sound). No condition but each theorem's own. -/
set_option linter.unusedVariables false
set_option linter.unusedSimpArgs false
namespace Go.Proofs.Ytobfanodjdkkoaa
open Go.RowKit Go.Maps

theorem drop_pr {ys : List (Int × Int)} {i : Nat} (hi : i < ys.length) {x : Int × Int} (hx : ys.getD i (0, 0) = x) : ys.drop i = x :: ys.drop (i + 1) := by
  rw [List.getD_eq_getElem?_getD, List.getElem?_eq_getElem hi, Option.getD_some] at hx
  rw [← hx]
  exact List.drop_eq_getElem_cons hi
set_option maxRecDepth 100000 in
set_option maxHeartbeats 2000000 in
theorem from_ref08 (w : World) (v : Value) (hs : List Txr) (i k : Nat) (M : WM) (hv : Txns w v hs) (hn : countTo hs hs.length ≤ 1000000) (hm : mayH hs = true) (hM : histF hs hs.length = some M) (hk : k < hs.length) :
    Calls Try.prog 26 #[v, .int .i64 i, .int .i64 k] w fun e w' => e = .returned (.bool (fromB M hs i k)) ∧ Ch nob w w' := by
  have HR := Lib.hid (reads_ref08 w v hs k M hv hn hm hM hk)
  have HB := Lib.hid (show fromB M hs i k = (rdOf M hs k).any fun p => p.2 == (i : Int) from rfl)
  obtain ⟨ys, hys⟩ : ∃ ys, rdOf M hs k = ys := ⟨_, rfl⟩
  rw [hys] at HR HB
  obtain ⟨A, cp, rfl⟩ := hv.shape
  obtain ⟨n, hn2⟩ : ∃ n, hs.length = n := ⟨_, rfl⟩
  rw [hn2] at HR ⊢
  clear hv hn hm hM hys hn2 hk
  go_enter Try.func26, Try.ntmps26
  go_wp2_with fail
  refine HR.out.mono ?_
  rintro e w1 ⟨v1, rfl, ho, hc1⟩
  obtain ⟨A1, c1, hv1⟩ := ho.prs.shape
  obtain ⟨q, hq⟩ : ∃ q, ys.length = q := ⟨_, rfl⟩
  have HQ := Lib.hid hq
  rw [hq] at hv1
  subst hv1
  have HO := Lib.hid ho.prs
  have hql : q ≤ 9223372036854775807 := by have := ho.prs.at.2.1.2; rw [hq] at this; exact this
  clear ho hq HR
  go_wp2_with fail
  go_loopw [8] (fun x wr => ∃ j : Nat, x = .int .i64 j ∧ j ≤ q ∧ Hid ((ys.any fun p => p.2 == (i : Int)) = ((ys.drop j).any fun p => p.2 == (i : Int))) ∧ w1 = wr) (fun x _ => q - (intOf x).toNat)
  case atStart => exact ⟨0, rfl, Nat.zero_le _, Lib.hid rfl, rfl⟩
  case round =>
    obtain ⟨j, rfl, hj, hf, rfl⟩ := hrel
    by_cases hlt : j < q
    · have hd : decide ((j : Int) < (q : Int)) = true := decide_eq_true (by omega)
      obtain ⟨ad, rfl, hx0, hx1⟩ := HO.out.at.2.2 j (by rw [HQ.out]; exact hlt)
      have hdr := drop_pr (show j < ys.length from by rw [HQ.out]; exact hlt) rfl
      obtain ⟨x, hx⟩ : ∃ x, ys.getD j (0, 0) = x := ⟨_, rfl⟩
      rw [hx] at hx0 hx1 hdr
      have HD := Lib.hid (show (ys.any fun p => p.2 == (i : Int)) = (x.2 == (i : Int) || (ys.drop (j + 1)).any fun p => p.2 == (i : Int)) from by rw [hf.out, hdr]; rfl)
      obtain ⟨xk, xf⟩ := x
      dsimp only at hx1
      clear hx hdr hx0
      cases e : (xf == (i : Int)) with
      | true =>
        have HF := Lib.hid (show fromB M hs i k = true from by rw [HB.out, HD.out]; show (xf == (i : Int) || _) = true; rw [e]; rfl)
        go_wp2_with fail
        go_ret
        exact ⟨ret_bool HF.out.symm, hc1⟩
      | false =>
        have HF := Lib.hid (show (ys.any fun p => p.2 == (i : Int)) = ((ys.drop (j + 1)).any fun p => p.2 == (i : Int)) from by rw [HD.out]; show (xf == (i : Int) || _) = _; rw [e]; rfl)
        go_wp2_with fail
        go_roundw
        case rel => exact ⟨j + 1, by go_num, by omega, HF, trivial⟩
        case measure => simp [intOf]; omega
    · have hd : decide ((j : Int) < (q : Int)) = false := decide_eq_false (by omega)
      have HF := Lib.hid (show fromB M hs i k = false from by rw [HB.out, hf.out, List.drop_eq_nil_of_le (by rw [HQ.out]; omega)]; rfl)
      go_wp2_with fail
      go_ret
      exact ⟨ret_bool HF.out.symm, hc1⟩

/-- What is read of others is the last value: by the document. -/
theorem last_of (w : World) (v : Value) (xs : List Opn) (s b c k u z : Int) (hz : valR xs k = z) (hv : Opl w v xs) (hn : xs.length ≤ 64) : Calls Try.prog 18 #[.agg #[.int .i64 s, .int .i64 b, .int .i64 c, v], .int .i64 k, .int .i64 u] w fun e w' => e = .returned (.bool (z == u)) ∧ Ch nob w w' :=
  last_ref06 w v xs s b c k u z hz hv (by omega)
set_option maxRecDepth 100000 in
set_option maxHeartbeats 8000000 in
theorem sound_ref08 (w : World) (v : Value) (hs : List Txr) (M : WM) (hv : Txns w v hs) (hn : countTo hs hs.length ≤ 1000000) (hm : mayH hs = true) (hM : histF hs hs.length = some M) :
    Calls Try.prog 27 #[v] w fun e w' => e = .returned (.bool (sdAll M hs hs.length)) ∧ Ch nob w w' := by
  obtain ⟨A, cp, rfl⟩ := hv.shape
  have HV := Lib.hid hv
  have HM := Lib.hid hm
  have HMM := Lib.hid hM
  have HW := Lib.hid (fun (wr : World) (i : Nat) (x : Opn) (k u fr : Int) (hc : Ch nob w wr) => writer_of wr _ hs M i x k u fr (hv.keep hc) hn hm hM)
  have HSD := Lib.hid (sdAll_all M hs hs.length)
  obtain ⟨_, ⟨_, hlen⟩, _⟩ := hv.at
  obtain ⟨n, hn2⟩ : ∃ n, hs.length = n := ⟨_, rfl⟩
  have HN := Lib.hid hn2
  rw [hn2] at HV HW hlen ⊢
  clear hv hn2 hn hm hM
  go_enter Try.func27, Try.ntmps27
  go_wp2_with fail
  go_loopw [3] (fun x wr => ∃ i : Nat, x = .int .i64 i ∧ i ≤ n ∧ Hid (∀ j, j < i → soundAt M hs j = true) ∧ Ch nob w wr) (fun x _ => n - (intOf x).toNat)
  case atStart => exact ⟨0, rfl, Nat.zero_le _, Lib.hid (fun j hj => by omega), Ch.refl _ _⟩
  case round =>
    obtain ⟨i, rfl, hi, hst, hc⟩ := hrel
    by_cases hlt : i < n
    · have hd : decide ((i : Int) < (n : Int)) = true := decide_eq_true (by omega)
      have HI := Lib.hid (show i < hs.length from by rw [HN.out]; exact hlt)
      obtain ⟨ad, u, rfl, hx0, hx1, hx2, hx3, hu⟩ := HV.out.both hc i HI.out
      have hlx := may_len HM.out HI.out
      have HST := Lib.hid (show soundAt M hs i = (steadyB (hs.getD i txrZero).ops && (rOf hs i).all (okOf M i)) from rfl)
      have HNO := Lib.hid (show soundAt M hs i = false → sdAll M hs n = false from fun h => by rw [← HN.out, HSD.out]; exact all_no HI.out h)
      have HRO := Lib.hid (show readsR (hs.getD i txrZero).ops 64 = rOf hs i from rfl)
      obtain ⟨xs, hxs⟩ : ∃ xs, (hs.getD i txrZero).ops = xs := ⟨_, rfl⟩
      rw [hxs] at hu hlx HST HRO
      obtain ⟨A2, c2, rfl⟩ := hu.shape
      obtain ⟨l, hl⟩ : ∃ l, xs.length = l := ⟨_, rfl⟩
      rw [hl] at hx3 hu
      have HU := Lib.hid hu
      have HLX := Lib.hid hlx
      clear hxs hl hu hx0 hx1 hx2 hlx
      go_wp2_with fail
      refine (steady_ref05 _ (.slice A2 l c2) xs (HU.out.keep hc) (Nat.le_trans HLX.out (by decide))).mono ?_
      rintro e w1 ⟨rfl, hc1⟩
      have hc2 := hc.seq hc1
      have hx3b := cell_keep hx3 hc1
      clear hx3 hc hc1
      cases hsd : steadyB xs with
      | false =>
        have HF := Lib.hid (HNO.out (by rw [HST.out, hsd]; rfl))
        go_wp2_with fail
        go_ret
        exact ⟨ret_bool HF.out.symm, hc2⟩
      | true =>
        have HRD := Lib.hid (reads_ref05 w1 (.slice A2 l c2) xs (HU.out.keep hc2) (Nat.le_trans HLX.out (by decide)))
        rw [HRO.out] at HRD
        have HST2 := Lib.hid (show soundAt M hs i = (rOf hs i).all (okOf M i) from by rw [HST.out, hsd, Bool.true_and])
        obtain ⟨ys, hys⟩ : ∃ ys, rOf hs i = ys := ⟨_, rfl⟩
        rw [hys] at HRD HST2
        have HYS := Lib.hid hys
        clear hys hsd HST
        go_wp2_with fail
        refine HRD.out.mono ?_
        rintro e w2 ⟨v2, rfl, ho, hc3⟩
        obtain ⟨A3, c3, hv3⟩ := ho.opl.shape
        obtain ⟨q, hq⟩ : ∃ q, ys.length = q := ⟨_, rfl⟩
        have hql : q ≤ 9223372036854775807 := by rw [← hq]; exact ho.len
        have HQ := Lib.hid hq
        rw [hq] at hv3
        subst hv3
        have HO := Lib.hid ho.opl
        have hc4 := hc2.seq hc3
        clear HRD ho hq hc2 hc3 hx3b
        go_wp2_with fail
        go_loopw [5] (fun x wr => ∃ k : Nat, x = .int .i64 k ∧ k ≤ q ∧ Hid (∀ m, m < k → okOf M i (ys.getD m opZero) = true) ∧ Ch nob w2 wr) (fun x _ => q - (intOf x).toNat)
        case atStart => exact ⟨0, rfl, Nat.zero_le _, Lib.hid (fun j hj => by omega), Ch.refl _ _⟩
        case round =>
          obtain ⟨k, rfl, hk, hst2, hc⟩ := hrel
          by_cases hlt2 : k < q
          · have hd2 : decide ((k : Int) < (q : Int)) = true := decide_eq_true (by omega)
            obtain ⟨ad2, rfl, hy0, hy1, hy2⟩ := (HO.out.keep hc).at.2.2 k (by rw [HQ.out]; exact hlt2)
            obtain ⟨x, hx⟩ : ∃ x, ys.getD k opZero = x := ⟨_, rfl⟩
            have HX := Lib.hid (show x ∈ rOf hs i from by rw [HYS.out, ← hx]; exact getD_mem (by rw [HQ.out]; exact hlt2))
            have HBAD := Lib.hid (show okOf M i x = false → sdAll M hs n = false from fun h => HNO.out (by
              rw [HST2.out, ← Bool.not_eq_true, List.all_eq_true]
              intro h2
              have := h2 x (by rw [← HYS.out]; exact HX.out)
              rw [h] at this; cases this))
            have HGOOD := Lib.hid (show okOf M i x = true → Hid (∀ m, m < k + 1 → okOf M i (ys.getD m opZero) = true) from fun h => Lib.hid fun m hm => by
              by_cases e : m = k
              · rw [e, hx]; exact h
              · exact hst2.out m (by omega))
            rw [hx] at hy0 hy1 hy2
            obtain ⟨xw, xk, xv⟩ := x
            dsimp only at hy1 hy2
            clear hx hy0
            cases h0 : (xv == 0) with
            | true =>
              have HT := HGOOD.out (ok_zero (by simpa using h0))
              go_wp2_with fail
              go_roundw
              case rel => exact ⟨k + 1, by go_num, by omega, HT, hc⟩
              case measure => simp [intOf]; omega
            | false =>
              have HNE := Lib.hid (show xv ≠ 0 from by simpa using h0)
              rcases read_by HM.out HMM.out HI.out HX.out with h1 | ⟨f, hf, h2, h3⟩
              · exact absurd h1 HNE.out
              · have HFR : fromOf M ⟨xw, xk, xv⟩ = (f : Int) := by unfold fromOf; rw [if_neg HNE.out, h2]; rfl
                obtain ⟨z, hz⟩ : ∃ z, valR (hs.getD f txrZero).ops xk = z := ⟨_, rfl⟩
                have HOK := Lib.hid (show okOf M i ⟨xw, xk, xv⟩ = ((z == xv) && ((f : Int) != (i : Int))) from by
                  unfold okOf
                  rw [h2, hz]
                  simp [HNE.out])
                have HFF := Lib.hid HFR
                have HZ := Lib.hid hz
                have HFL := Lib.hid hf
                have hfn : f < n := by have := HN.out; omega
                clear h2 h3 HFR hz hf
                have hcw := hc4.seq hc
                have H := Lib.hid (fun (uu : Ext wr) => ext_of (HW.out uu.val i ⟨xw, xk, xv⟩ xk xv (f : Int) (hcw.seq uu.ch) hlt HX.out rfl rfl HNE.out HFF.out))
                have X1 := fun uu : Ext wr => Ext.cell hy1 uu
                have X2 := fun uu : Ext wr => Ext.cell hy2 uu
                go_wp2_with fail
                refine wp_region_ch (w0 := wr) (by kernel_rfl) (by kernel_rfl) (Ch.refl _ _) ?_
                repeat go_big_quiet_step (exact H.out _)
                refine wpQuiet_nil ?_
                rintro wq ⟨⟨_, hcq⟩, rfl⟩
                have hc5 := hc.seq hcq
                have hcz := hcw.seq hcq
                have hY1 := cell_keep hy1 hcq
                have hY2 := cell_keep hy2 hcq
                clear X1 X2 H hy1 hy2 hc hcw hcq
                go_wp2_with fail
                cases he : ((f : Int) == (i : Int)) with
                | true =>
                  have HF := Lib.hid (HBAD.out (by rw [HOK.out, bne, he]; simp))
                  refine wp_region_ch (w0 := _) (by kernel_rfl) (by kernel_rfl) (Ch.refl _ _) ?_
                  repeat go_big_quiet_step (fail)
                  refine wpQuiet_nil ?_
                  rintro wp ⟨⟨_, hcp⟩, rfl⟩
                  have hc6 := hcz.seq hcp
                  go_wp2_with fail
                  go_ret
                  exact ⟨ret_bool HF.out.symm, hc6⟩
                | false =>
                  obtain ⟨ad9, u9, had9, hf0, hf1, hf2, hf3, hfu⟩ := HV.out.both hcz f HFL.out
                  obtain rfl := Option.some.inj had9
                  obtain ⟨T, hT⟩ : ∃ T, hs.getD f txrZero = T := ⟨_, rfl⟩
                  have hfl := may_len HM.out HFL.out
                  have HZ2 := Lib.hid HZ.out
                  rw [hT] at hf0 hf1 hf2 hfu hfl HZ2
                  obtain ⟨ts, tb, tc, zs⟩ := T
                  dsimp only at hf0 hf1 hf2 hfu hfl HZ2
                  obtain ⟨A7, c7, rfl⟩ := hfu.shape
                  obtain ⟨l7, hl7⟩ : ∃ l, zs.length = l := ⟨_, rfl⟩
                  rw [hl7] at hf3 hfu
                  have HLS := Lib.hid (fun (uu : Ext wq) => ext_of (last_of uu.val (.slice A7 l7 c7) zs ts tb tc xk xv z HZ2.out (hfu.keep (hcz.seq uu.ch)) hfl))
                  have X0 := fun uu : Ext wq => Ext.cell hf0 uu
                  have X1 := fun uu : Ext wq => Ext.cell hf1 uu
                  have X2 := fun uu : Ext wq => Ext.cell hf2 uu
                  have X3 := fun uu : Ext wq => Ext.cell hf3 uu
                  have X4 := fun uu : Ext wq => Ext.cell hY1 uu
                  have X5 := fun uu : Ext wq => Ext.cell hY2 uu
                  clear had9 hT hl7 hfu hfl
                  refine wp_region_ch (w0 := wq) (by kernel_rfl) (by kernel_rfl) (Ch.refl _ _) ?_
                  repeat go_big_quiet_step (exact HLS.out _)
                  refine wpQuiet_nil ?_
                  rintro wp ⟨⟨_, hcp⟩, rfl⟩
                  have hc6 := hcz.seq hcp
                  have hc7 := hc5.seq hcp
                  clear X0 X1 X2 X3 X4 X5 HLS hf0 hf1 hf2 hf3 hY1 hY2 hc5 hcz hcp
                  cases hz3 : (z == xv) with
                  | false =>
                    have HF := Lib.hid (HBAD.out (by rw [HOK.out, hz3, Bool.false_and]))
                    simp only [Bool.not_false]
                    go_wp2_with fail
                    go_ret
                    exact ⟨ret_bool HF.out.symm, hc6⟩
                  | true =>
                    have HT := HGOOD.out (by rw [HOK.out, hz3, bne, he]; rfl)
                    simp only [Bool.not_true]
                    go_wp2_with fail
                    go_roundw
                    case rel => exact ⟨k + 1, by go_num, by omega, HT, hc7⟩
                    case measure => simp [intOf]; omega
          · have hd2 : decide ((k : Int) < (q : Int)) = false := decide_eq_false (by omega)
            obtain rfl : k = q := by omega
            have HT : Hid (∀ j, j < i + 1 → soundAt M hs j = true) := Lib.hid fun j hj => by
              by_cases e : j = i
              · rw [e, HST2.out, List.all_eq_true]
                intro x hx
                obtain ⟨m, hm1, hm2⟩ := mem_getD hx
                rw [← hm2]
                exact hst2.out m (by rw [← HQ.out]; exact hm1)
              · exact hst.out j (by omega)
            have hc8 := hc4.seq hc
            go_wp2_with fail
            go_roundw
            case rel => exact ⟨i + 1, by go_num, by omega, HT, hc8⟩
            case measure => simp [intOf]; omega
    · have hd : decide ((i : Int) < (n : Int)) = false := decide_eq_false (by omega)
      obtain rfl : i = n := by omega
      have HF := Lib.hid (show sdAll M hs i = true from by rw [← HN.out, HSD.out]; exact all_yes (by rw [HN.out]; exact hst.out))
      go_wp2_with fail
      go_ret
      exact ⟨ret_bool HF.out.symm, hc⟩
end Go.Proofs.Ytobfanodjdkkoaa
end
