/- Plain law: how many bits of a number are set, as Go's library reckons it. No condition. -/
import Derived.Test.YtbpmcjndlbkkiaaDoorSetPure
set_option linter.unusedVariables false
set_option linter.unusedSimpArgs false
namespace Go.Proofs.YtbpmcjndlbkkiaaDoor
namespace Bits

/-- A number out of its digits to the base 256, the least one first. -/
def ofD : List Nat → Nat
  | [] => 0
  | d :: l => d + 256 * ofD l
def shr (c c' : Nat) : List Nat → List Nat
  | [] => []
  | d :: l => (d / c + c' * (l.headD 0 % c)) :: shr c c' l
theorem ofD_mod (c c' : Nat) (hc : c * c' = 256) (l : List Nat) : ofD l % c = l.headD 0 % c := by
  cases l with
  | nil => rfl
  | cons d l =>
    show (d + 256 * ofD l) % c = d % c
    rw [← hc, Nat.mul_assoc, Nat.add_mul_mod_self_left]
theorem ofD_shr (c c' : Nat) (hc : c * c' = 256) (l : List Nat) : ofD l / c = ofD (shr c c' l) := by
  have hpos : 0 < c := by rcases Nat.eq_zero_or_pos c with rfl | h; · simp at hc
                          · exact h
  induction l with
  | nil => simp [ofD, shr]
  | cons d l ih =>
    show (d + 256 * ofD l) / c = d / c + c' * (l.headD 0 % c) + 256 * ofD (shr c c' l)
    rw [← ih, ← ofD_mod c c' hc l, ← hc, Nat.mul_assoc, Nat.add_mul_div_left _ _ hpos, Nat.add_assoc]
    congr 1
    rw [Nat.mul_assoc, Nat.mul_left_comm c c', ← Nat.mul_add, Nat.mod_add_div]
theorem shr_len (c c' : Nat) (l : List Nat) : (shr c c' l).length = l.length := by
  induction l with
  | nil => rfl
  | cons d l ih => simp [shr, ih]
theorem and_pair (a b m M : Nat) (ha : a < 256) (hm : m < 256) : (a + 256 * b) &&& (m + 256 * M) = (a &&& m) + 256 * (b &&& M) := by
  have h1 := @Nat.and_div_two_pow (a + 256 * b) (m + 256 * M) 8
  have h2 := @Nat.and_mod_two_pow (a + 256 * b) (m + 256 * M) 8
  rw [show (2 : Nat) ^ 8 = 256 from rfl] at h1 h2
  rw [show (a + 256 * b) / 256 = b from by omega, show (m + 256 * M) / 256 = M from by omega] at h1
  rw [show (a + 256 * b) % 256 = a from by omega, show (m + 256 * M) % 256 = m from by omega] at h2
  omega
theorem ofD_and (m : Nat) (hm : m < 256) (l : List Nat) (hl : ∀ d ∈ l, d < 256) : ofD l &&& ofD (List.replicate l.length m) = ofD (l.map (· &&& m)) := by
  induction l with
  | nil => simp [ofD]
  | cons d l ih =>
    show (d + 256 * ofD l) &&& (m + 256 * ofD (List.replicate l.length m)) = (d &&& m) + 256 * ofD (l.map (· &&& m))
    rw [and_pair _ _ _ _ (hl d (by simp)) hm, ih (fun x hx => hl x (by simp [hx]))]
theorem ofD_add (f g : Nat → Nat) (l : List Nat) : ofD (l.map f) + ofD (l.map g) = ofD (l.map fun d => f d + g d) := by
  induction l with
  | nil => rfl
  | cons d l ih =>
    show f d + 256 * ofD (l.map f) + (g d + 256 * ofD (l.map g)) = f d + g d + 256 * ofD (l.map fun d => f d + g d)
    rw [← ih]; omega
theorem shr_map_and (c c' m : Nat) (l : List Nat) (hl : ∀ d ∈ l, d < 256) (h : ∀ d, d < 256 → ∀ b, b < c → (d / c + c' * b) &&& m = d / c &&& m) (hc : 0 < c) :
    (shr c c' l).map (· &&& m) = l.map fun d => d / c &&& m := by
  induction l with
  | nil => rfl
  | cons d l ih =>
    show ((d / c + c' * (l.headD 0 % c)) &&& m) :: (shr c c' l).map (· &&& m) = (d / c &&& m) :: l.map fun d => d / c &&& m
    rw [h d (hl d (by simp)) _ (Nat.mod_lt _ hc), ih (fun x hx => hl x (by simp [hx]))]
theorem shr_small (c c' : Nat) (hc : c * c' = 256) (hpos : 0 < c) (l : List Nat) (hl : ∀ d ∈ l, d < 256) : ∀ d ∈ shr c c' l, d < 256 := by
  induction l with
  | nil => intro d hd; simp [shr] at hd
  | cons x l ih =>
    intro d hd
    simp only [shr, List.mem_cons] at hd
    rcases hd with rfl | hd
    · have h1 := hl x (by simp)
      have h2 : l.headD 0 % c < c := Nat.mod_lt _ hpos
      have h3 : x / c < c' := by rw [Nat.div_lt_iff_lt_mul hpos, Nat.mul_comm, hc]; exact h1
      have h4 : c' * (l.headD 0 % c) ≤ c' * (c - 1) := Nat.mul_le_mul_left _ (by omega)
      have h5 : c' * (c - 1) + c' = 256 := by
        rw [← Nat.mul_succ, Nat.succ_eq_add_one, show c - 1 + 1 = c from by omega, Nat.mul_comm]; exact hc
      omega
    · exact ih (fun x hx => hl x (by simp [hx])) d hd

def f1 (d : Nat) : Nat := (d / 2 &&& 85) + (d &&& 85)
def f2 (d : Nat) : Nat := (d / 4 &&& 51) + (d &&& 51)
def pop8 (d : Nat) : Nat := ((List.range 8).filter fun i => d.testBit i).length
theorem f1_lt (d : Nat) (h : d < 256) : f1 d < 256 := (by decide +kernel : ∀ d : Fin 256, f1 d.val < 256) ⟨d, h⟩
theorem f2_small (d : Nat) (h : d < 256) : f2 (f1 d) / 16 ≤ 4 ∧ f2 (f1 d) % 16 ≤ 4 := (by decide +kernel : ∀ d : Fin 256, f2 (f1 d.val) / 16 ≤ 4 ∧ f2 (f1 d.val) % 16 ≤ 4) ⟨d, h⟩
theorem f3_pop (d : Nat) (h : d < 256) : f2 (f1 d) / 16 + f2 (f1 d) % 16 = pop8 d := (by decide +kernel : ∀ d : Fin 256, f2 (f1 d.val) / 16 + f2 (f1 d.val) % 16 = pop8 d.val) ⟨d, h⟩
theorem pop8_le (d : Nat) : pop8 d ≤ 8 := by
  have := List.length_filter_le (fun i => d.testBit i) (List.range 8)
  unfold pop8; simpa using this
theorem step_one (l : List Nat) (h8 : l.length = 8) (hl : ∀ d ∈ l, d < 256) : (ofD l / 2 &&& 6148914691236517205) + (ofD l &&& 6148914691236517205) = ofD (l.map f1) := by
  rw [ofD_shr 2 128 rfl]
  have hm : (6148914691236517205 : Nat) = ofD (List.replicate 8 85) := by decide
  have h1 := ofD_and 85 (by decide) (shr 2 128 l) (shr_small 2 128 rfl (by decide) l hl)
  rw [shr_len, h8] at h1
  have h2 := ofD_and 85 (by decide) l hl
  rw [h8] at h2
  rw [hm, h1, h2, shr_map_and 2 128 85 l hl (fun d hd b hb => (by decide +kernel : ∀ d : Fin 256, ∀ b : Fin 2, (d.val / 2 + 128 * b.val) &&& 85 = d.val / 2 &&& 85) ⟨d, hd⟩ ⟨b, hb⟩) (by decide), ofD_add]
  rfl
theorem step_two (l : List Nat) (h8 : l.length = 8) (hl : ∀ d ∈ l, d < 256) : (ofD l / 4 &&& 3689348814741910323) + (ofD l &&& 3689348814741910323) = ofD (l.map f2) := by
  rw [ofD_shr 4 64 rfl]
  have hm : (3689348814741910323 : Nat) = ofD (List.replicate 8 51) := by decide
  have h1 := ofD_and 51 (by decide) (shr 4 64 l) (shr_small 4 64 rfl (by decide) l hl)
  rw [shr_len, h8] at h1
  have h2 := ofD_and 51 (by decide) l hl
  rw [h8] at h2
  rw [hm, h1, h2, shr_map_and 4 64 51 l hl (fun d hd b hb => (by decide +kernel : ∀ d : Fin 256, ∀ b : Fin 4, (d.val / 4 + 64 * b.val) &&& 51 = d.val / 4 &&& 51) ⟨d, hd⟩ ⟨b, hb⟩) (by decide), ofD_add]
  rfl
/-- The third step: digits whose halves are at most 4. -/
def third : List Nat → List Nat
  | [] => []
  | d :: l => (d / 16 + 16 * (l.headD 0 % 16) + d) :: third l
theorem third_sum (l : List Nat) : ofD (shr 16 16 l) + ofD l = ofD (third l) := by
  induction l with
  | nil => rfl
  | cons d l ih =>
    show d / 16 + 16 * (l.headD 0 % 16) + 256 * ofD (shr 16 16 l) + (d + 256 * ofD l) = d / 16 + 16 * (l.headD 0 % 16) + d + 256 * ofD (third l)
    rw [← ih]; omega
theorem third_small (l : List Nat) (hl : ∀ d ∈ l, d / 16 ≤ 4 ∧ d % 16 ≤ 4) : (∀ d ∈ third l, d < 256) ∧ (third l).map (· &&& 15) = l.map fun d => d / 16 + d % 16 := by
  induction l with
  | nil => exact ⟨fun d hd => by simp [third] at hd, rfl⟩
  | cons x l ih =>
    obtain ⟨i1, i2⟩ := ih (fun d hd => hl d (by simp [hd]))
    have hx := hl x (by simp)
    have hh : l.headD 0 % 16 ≤ 4 := by
      cases l with
      | nil => simp
      | cons y l => exact (hl y (by simp)).2
    refine ⟨fun d hd => ?_, ?_⟩
    · simp only [third, List.mem_cons] at hd
      rcases hd with rfl | hd
      · omega
      · exact i1 d hd
    · show ((x / 16 + 16 * (l.headD 0 % 16) + x) &&& 15) :: (third l).map (· &&& 15) = (x / 16 + x % 16) :: l.map fun d => d / 16 + d % 16
      rw [i2]
      congr 1
      have := Nat.and_two_pow_sub_one_eq_mod (x / 16 + 16 * (l.headD 0 % 16) + x) 4
      rw [show 2 ^ 4 - 1 = 15 from rfl, show 2 ^ 4 = 16 from rfl] at this
      rw [this]; omega
theorem third_len (l : List Nat) : (third l).length = l.length := by
  induction l with
  | nil => rfl
  | cons d l ih => simp [third, ih]
theorem step_three (l : List Nat) (h8 : l.length = 8) (hl : ∀ d ∈ l, d / 16 ≤ 4 ∧ d % 16 ≤ 4) : (ofD l / 16 + ofD l) &&& 1085102592571150095 = ofD (l.map fun d => d / 16 + d % 16) := by
  obtain ⟨i1, i2⟩ := third_small l hl
  rw [ofD_shr 16 16 rfl, third_sum]
  have hm : (1085102592571150095 : Nat) = ofD (List.replicate 8 15) := by decide
  have h1 := ofD_and 15 (by decide) (third l) i1
  rw [third_len, h8] at h1
  rw [hm, h1, i2]

def digits (x : Nat) : List Nat := [x % 256, x / 256 % 256, x / 65536 % 256, x / 16777216 % 256, x / 4294967296 % 256, x / 1099511627776 % 256, x / 281474976710656 % 256, x / 72057594037927936 % 256]
theorem ofD_digits (x : Nat) (hx : x < 18446744073709551616) : ofD (digits x) = x := by
  simp only [digits, ofD]; omega
theorem digits_lt (x : Nat) : ∀ d ∈ digits x, d < 256 := by
  intro d hd
  simp only [digits, List.mem_cons, List.not_mem_nil, or_false] at hd
  rcases hd with rfl | rfl | rfl | rfl | rfl | rfl | rfl | rfl <;> omega

def s1 (x : Nat) : Nat := (x / 2 &&& 6148914691236517205) + (x &&& 6148914691236517205)
def s2 (x : Nat) : Nat := (x / 4 &&& 3689348814741910323) + (x &&& 3689348814741910323)
def s3 (x : Nat) : Nat := (x / 16 + x) &&& 1085102592571150095
theorem s3_pop (x : Nat) (hx : x < 18446744073709551616) : s3 (s2 (s1 x)) = ofD ((digits x).map pop8) := by
  have hl := digits_lt x
  have h1 : s1 x = ofD ((digits x).map f1) := by
    have := step_one (digits x) rfl hl
    rw [ofD_digits x hx] at this
    exact this
  have h2 : s2 (s1 x) = ofD ((digits x).map fun d => f2 (f1 d)) := by
    rw [h1]
    have := step_two ((digits x).map f1) rfl (fun d hd => by
      obtain ⟨y, hy, rfl⟩ := List.mem_map.1 hd
      exact f1_lt y (hl y hy))
    rw [List.map_map] at this
    exact this
  rw [h2]
  have := step_three ((digits x).map fun d => f2 (f1 d)) rfl (fun d hd => by
      obtain ⟨y, hy, rfl⟩ := List.mem_map.1 hd
      exact f2_small y (hl y hy))
  rw [List.map_map] at this
  refine this.trans ?_
  congr 1
  exact List.map_congr_left fun d hd => f3_pop d (hl d hd)
def sums (x : Nat) : Nat := pop8 (x % 256) + pop8 (x / 256 % 256) + pop8 (x / 65536 % 256) + pop8 (x / 16777216 % 256) + pop8 (x / 4294967296 % 256) + pop8 (x / 1099511627776 % 256) + pop8 (x / 281474976710656 % 256) + pop8 (x / 72057594037927936 % 256)
def s4 (x : Nat) : Nat := x + x / 256
def s5 (x : Nat) : Nat := x + x / 65536
def s6 (x : Nat) : Nat := x + x / 4294967296
theorem dv (L H B : Nat) (h : L < B) : (L + B * H) / B = H := by
  rw [Nat.add_mul_div_left _ _ (by omega), Nat.div_eq_of_lt h, Nat.zero_add]
theorem s6_sum (x : Nat) (hx : x < 18446744073709551616) : s6 (s5 (s4 (s3 (s2 (s1 x))))) % 128 = sums x := by
  rw [s3_pop x hx]
  simp only [digits, List.map, ofD, sums]
  have a0 := pop8_le (x % 256)
  have a1 := pop8_le (x / 256 % 256)
  have a2 := pop8_le (x / 65536 % 256)
  have a3 := pop8_le (x / 16777216 % 256)
  have a4 := pop8_le (x / 4294967296 % 256)
  have a5 := pop8_le (x / 1099511627776 % 256)
  have a6 := pop8_le (x / 281474976710656 % 256)
  have a7 := pop8_le (x / 72057594037927936 % 256)
  generalize pop8 (x % 256) = b0 at *
  generalize pop8 (x / 256 % 256) = b1 at *
  generalize pop8 (x / 65536 % 256) = b2 at *
  generalize pop8 (x / 16777216 % 256) = b3 at *
  generalize pop8 (x / 4294967296 % 256) = b4 at *
  generalize pop8 (x / 1099511627776 % 256) = b5 at *
  generalize pop8 (x / 281474976710656 % 256) = b6 at *
  generalize pop8 (x / 72057594037927936 % 256) = b7 at *
  have e4 : s4 (b0 + 256 * (b1 + 256 * (b2 + 256 * (b3 + 256 * (b4 + 256 * (b5 + 256 * (b6 + 256 * (b7 + 256 * 0)))))))) = (b0 + b1) + 256 * ((b1 + b2) + 256 * ((b2 + b3) + 256 * ((b3 + b4) + 256 * ((b4 + b5) + 256 * ((b5 + b6) + 256 * ((b6 + b7) + 256 * b7)))))) := by
    unfold s4
    rw [dv b0 _ 256 (by omega)]
    omega
  rw [e4]
  have k0 : b0 + b1 ≤ 16 := by omega
  have k1 : b1 + b2 ≤ 16 := by omega
  have k2 : b2 + b3 ≤ 16 := by omega
  have k3 : b3 + b4 ≤ 16 := by omega
  have k4 : b4 + b5 ≤ 16 := by omega
  have k5 : b5 + b6 ≤ 16 := by omega
  have k6 : b6 + b7 ≤ 16 := by omega
  have e5 : s5 ((b0 + b1) + 256 * ((b1 + b2) + 256 * ((b2 + b3) + 256 * ((b3 + b4) + 256 * ((b4 + b5) + 256 * ((b5 + b6) + 256 * ((b6 + b7) + 256 * b7))))))) = (b0 + b1 + (b2 + b3)) + 256 * ((b1 + b2 + (b3 + b4)) + 256 * ((b2 + b3 + (b4 + b5)) + 256 * ((b3 + b4 + (b5 + b6)) + 256 * ((b4 + b5 + (b6 + b7)) + 256 * ((b5 + b6 + b7) + 256 * ((b6 + b7) + 256 * b7)))))) := by
    unfold s5
    rw [show ((b0 + b1) + 256 * ((b1 + b2) + 256 * ((b2 + b3) + 256 * ((b3 + b4) + 256 * ((b4 + b5) + 256 * ((b5 + b6) + 256 * ((b6 + b7) + 256 * b7))))))) / 65536 = ((b2 + b3) + 256 * ((b3 + b4) + 256 * ((b4 + b5) + 256 * ((b5 + b6) + 256 * ((b6 + b7) + 256 * b7))))) from by
      rw [show ((b0 + b1) + 256 * ((b1 + b2) + 256 * ((b2 + b3) + 256 * ((b3 + b4) + 256 * ((b4 + b5) + 256 * ((b5 + b6) + 256 * ((b6 + b7) + 256 * b7))))))) = ((b0 + b1) + 256 * (b1 + b2)) + 65536 * ((b2 + b3) + 256 * ((b3 + b4) + 256 * ((b4 + b5) + 256 * ((b5 + b6) + 256 * ((b6 + b7) + 256 * b7))))) from by omega]
      exact dv _ _ 65536 (by omega)]
    omega
  rw [e5]
  unfold s6
  rw [show ((b0 + b1 + (b2 + b3)) + 256 * ((b1 + b2 + (b3 + b4)) + 256 * ((b2 + b3 + (b4 + b5)) + 256 * ((b3 + b4 + (b5 + b6)) + 256 * ((b4 + b5 + (b6 + b7)) + 256 * ((b5 + b6 + b7) + 256 * ((b6 + b7) + 256 * b7))))))) / 4294967296 = (b4 + b5 + (b6 + b7)) + 256 * ((b5 + b6 + b7) + 256 * ((b6 + b7) + 256 * b7)) from by
    rw [show ((b0 + b1 + (b2 + b3)) + 256 * ((b1 + b2 + (b3 + b4)) + 256 * ((b2 + b3 + (b4 + b5)) + 256 * ((b3 + b4 + (b5 + b6)) + 256 * ((b4 + b5 + (b6 + b7)) + 256 * ((b5 + b6 + b7) + 256 * ((b6 + b7) + 256 * b7))))))) = ((b0 + b1 + (b2 + b3)) + 256 * ((b1 + b2 + (b3 + b4)) + 256 * ((b2 + b3 + (b4 + b5)) + 256 * (b3 + b4 + (b5 + b6))))) + 4294967296 * ((b4 + b5 + (b6 + b7)) + 256 * ((b5 + b6 + b7) + 256 * ((b6 + b7) + 256 * b7))) from by omega]
    exact dv _ _ 4294967296 (by omega)]
  rw [show (b0 + b1 + (b2 + b3)) + 256 * ((b1 + b2 + (b3 + b4)) + 256 * ((b2 + b3 + (b4 + b5)) + 256 * ((b3 + b4 + (b5 + b6)) + 256 * ((b4 + b5 + (b6 + b7)) + 256 * ((b5 + b6 + b7) + 256 * ((b6 + b7) + 256 * b7)))))) + ((b4 + b5 + (b6 + b7)) + 256 * ((b5 + b6 + b7) + 256 * ((b6 + b7) + 256 * b7)))
    = (b0 + b1 + b2 + b3 + b4 + b5 + b6 + b7) + 128 * (2 * ((b1 + b2 + (b3 + b4)) + 256 * ((b2 + b3 + (b4 + b5)) + 256 * ((b3 + b4 + (b5 + b6)) + 256 * ((b4 + b5 + (b6 + b7)) + 256 * ((b5 + b6 + b7) + 256 * ((b6 + b7) + 256 * b7))))) + (b5 + b6 + b7) + 256 * ((b6 + b7) + 256 * b7))) from by omega]
  rw [Nat.add_mul_mod_self_left]
  exact Nat.mod_eq_of_lt (by omega)

def cnt (n x : Nat) : Nat := ((List.range n).filter fun i => x.testBit i).length
theorem cnt_add (n x : Nat) : cnt (8 + n) x = cnt 8 x + cnt n (x / 256) := by
  unfold cnt
  rw [List.range_add, List.filter_append, List.length_append, List.filter_map, List.length_map]
  congr 2
  refine List.filter_congr fun i _ => ?_
  show x.testBit (8 + i) = (x / 256).testBit i
  rw [show (256 : Nat) = 2 ^ 8 from rfl, Nat.testBit_div_two_pow, Nat.add_comm]
theorem cnt8 (x : Nat) : cnt 8 x = pop8 (x % 256) := by
  unfold cnt pop8
  congr 1
  refine List.filter_congr fun i hi => ?_
  rw [show (256 : Nat) = 2 ^ 8 from rfl, Nat.testBit_mod_two_pow, decide_eq_true (List.mem_range.1 hi), Bool.true_and]
theorem count_sums (x : Nat) : count x = sums x := by
  have h : count x = cnt (8 + (8 + (8 + (8 + (8 + (8 + (8 + (8 + 0)))))))) x := rfl
  rw [h]
  simp only [cnt_add, cnt8, sums]
  simp only [Nat.div_div_eq_div_mul, cnt, Nat.reduceMul]
  simp only [List.range_zero, List.filter_nil, List.length_nil]
  omega
end Bits
end Go.Proofs.YtbpmcjndlbkkiaaDoor
