/- Plain numbers: what twelve levels ask, and what follows of that, as six bits; their names. No condition. -/
import Derived.Test.YtbpmcjndlbkkiaaKit
set_option linter.unusedVariables false
set_option linter.unusedSimpArgs false
namespace Go.Proofs.Ytbpmcjndlbkkiaa
open Go.RowKit

/-! ### Six bits -/
theorem bits_toInt_and (x y : Int) : bits .and .i64 x y = IntKind.i64.wrap (((x % 18446744073709551616).toNat &&& (y % 18446744073709551616).toNat : Nat) : Int) := by
  simp only [bits, BitVec.toNat_and, BitVec.toNat_ofInt]
  rfl
theorem bits_toInt_or (x y : Int) : bits .or .i64 x y = IntKind.i64.wrap (((x % 18446744073709551616).toNat ||| (y % 18446744073709551616).toNat : Nat) : Int) := by
  simp only [bits, BitVec.toNat_or, BitVec.toNat_ofInt]
  rfl
/-- An int's low six bits. -/
def six (x : Int) : Nat := (x % 64).toNat
theorem six_lt (x : Int) : six x < 64 := by unfold six; omega
theorem six_nat (n : Nat) (h : n < 64) : six (n : Int) = n := by unfold six; omega
theorem six_big (x : Int) : (x % 18446744073709551616).toNat % 64 = six x := by unfold six; omega
theorem and_small (x : Int) (m : Nat) (hm : m < 64) : bits .and .i64 x m = ((six x &&& m : Nat) : Int) := by
  rw [bits_toInt_and, show ((m : Int) % 18446744073709551616).toNat = m from by omega]
  have h1 : (x % 18446744073709551616).toNat &&& m = six x &&& m := by
    have h2 : ((x % 18446744073709551616).toNat &&& m) % 2 ^ 6 = (x % 18446744073709551616).toNat % 2 ^ 6 &&& m % 2 ^ 6 := Nat.and_mod_two_pow
    have h3 := six_big x
    have h4 : (x % 18446744073709551616).toNat &&& m < 2 ^ 6 := Nat.and_lt_two_pow _ (by omega)
    rw [Nat.mod_eq_of_lt h4, show (2 : Nat) ^ 6 = 64 from rfl, h3, Nat.mod_eq_of_lt hm] at h2
    exact h2
  rw [h1]
  have h5 : six x &&& m < 2 ^ 6 := Nat.and_lt_two_pow _ (by omega)
  rw [IntKind.wrap_i64]
  omega
theorem six_and (x y : Int) : six (bits .and .i64 x y) = six x &&& six y := by
  rw [bits_toInt_and, IntKind.wrap_i64]
  have h2 : ((x % 18446744073709551616).toNat &&& (y % 18446744073709551616).toNat) % 2 ^ 6 = (x % 18446744073709551616).toNat % 2 ^ 6 &&& (y % 18446744073709551616).toNat % 2 ^ 6 := Nat.and_mod_two_pow
  rw [show (2 : Nat) ^ 6 = 64 from rfl, six_big, six_big] at h2
  rw [← h2]
  generalize (x % 18446744073709551616).toNat &&& (y % 18446744073709551616).toNat = n
  unfold six
  omega
theorem six_or (x y : Int) : six (bits .or .i64 x y) = six x ||| six y := by
  rw [bits_toInt_or, IntKind.wrap_i64]
  have h2 : ((x % 18446744073709551616).toNat ||| (y % 18446744073709551616).toNat) % 2 ^ 6 = (x % 18446744073709551616).toNat % 2 ^ 6 ||| (y % 18446744073709551616).toNat % 2 ^ 6 := Nat.or_mod_two_pow
  rw [show (2 : Nat) ^ 6 = 64 from rfl, six_big, six_big] at h2
  rw [← h2]
  generalize (x % 18446744073709551616).toNat ||| (y % 18446744073709551616).toNat = n
  unfold six
  omega

/-! ### What follows of what is asked -/
/-- 'level.Closed', over six bits. -/
def cl (r : Nat) : Nat :=
  let a := if r &&& 16 = 0 then r else r ||| 12
  let b := if a &&& 4 = 0 then a else a ||| 2
  let c := if b &&& 32 = 0 then b else b ||| 1
  c &&& 63
theorem cl_lt (r : Nat) : cl r < 64 := by
  show _ &&& 63 < 2 ^ 6
  exact Nat.and_lt_two_pow _ (by decide)
/-- Is a thing asked? -/
def hasI (a t : Int) : Bool := decide (a / t % 2 = 1)
/-- 'Closed' by definition, out of six bools. -/
def clb (b1 b2 b4 b8 b16 b32 : Bool) : Int :=
  let p := b4 || b16
  (if b1 || b32 then 1 else 0) + (if b2 || p then 2 else 0) + (if p then 4 else 0) + (if b8 || b16 then 8 else 0) + (if b16 then 16 else 0) + (if b32 then 32 else 0)
theorem clb_cl (r : Nat) (h : r < 64) : clb (hasI r 1) (hasI r 2) (hasI r 4) (hasI r 8) (hasI r 16) (hasI r 32) = cl r := by
  have : ∀ r : Fin 64, clb (hasI (r.val : Int) 1) (hasI (r.val : Int) 2) (hasI (r.val : Int) 4) (hasI (r.val : Int) 8) (hasI (r.val : Int) 16) (hasI (r.val : Int) 32) = cl r.val := by decide +kernel
  exact this ⟨r, h⟩
theorem cl_idem (r : Nat) (h : r < 64) : cl (cl r) = cl r := by
  have : ∀ r : Fin 64, cl (cl r.val) = cl r.val := by decide +kernel
  exact this ⟨r, h⟩
theorem cl_holds (r : Nat) (h : r < 64) : cl r &&& r = r := by
  have : ∀ r : Fin 64, cl r.val &&& r.val = r.val := by decide +kernel
  exact this ⟨r, h⟩
theorem cl_more (r m : Nat) (h : r < 64) (hm : m < 64) : cl (r ||| m) &&& cl r = cl r := by
  have : ∀ r m : Fin 64, cl (r.val ||| m.val) &&& cl r.val = cl r.val := by decide +kernel
  exact this ⟨r, h⟩ ⟨m, hm⟩

/-! ### The levels -/
def asksN (l : Nat) : Nat := [0, 1, 3, 9, 5, 11, 13, 17, 34, 36, 44, 48].getD l 0
def asksI (l : Int) : Nat := if 0 ≤ l then asksN l.toNat else 0
theorem asksN_lt (l : Nat) : asksN l < 64 := by
  by_cases h : l < 12
  · have : ∀ l : Fin 12, asksN l.val < 64 := by decide +kernel
    exact this ⟨l, h⟩
  · unfold asksN
    rw [List.getD_eq_getElem?_getD, List.getElem?_eq_none (by simp; omega)]
    decide
theorem asksI_lt (l : Int) : asksI l < 64 := by
  unfold asksI
  split
  · exact asksN_lt _
  · decide
theorem asksI_out (l : Int) (h : ¬ (0 ≤ l ∧ l < 12)) : asksI l = 0 := by
  unfold asksI
  split
  · unfold asksN
    rw [List.getD_eq_getElem?_getD, List.getElem?_eq_none (by simp; omega)]
    rfl
  · rfl
/-- What the second one asks, and doesn't follow of what the first one does. -/
def missN (a b : Int) : Nat := asksI b ^^^ (asksI b &&& cl (asksI a))
theorem missN_lt (a b : Int) : missN a b < 64 := Nat.xor_lt_two_pow (n := 6) (asksI_lt b) (Nat.lt_of_le_of_lt Nat.and_le_left (asksI_lt b))
theorem andNot_small (x y : Nat) (hx : x < 64) (hy : y < 64) : bits .andNot .i64 x y = ((x ^^^ (x &&& y) : Nat) : Int) := by
  have : ∀ x y : Fin 64, bits .andNot .i64 (x.val : Int) (y.val : Int) = ((x.val ^^^ (x.val &&& y.val) : Nat) : Int) := by decide +kernel
  exact this ⟨x, hx⟩ ⟨y, hy⟩
def isL (l : Int) : Bool := decide (0 ≤ l ∧ l < 12)
def impl (a b : Int) : Bool := isL a && isL b && missN a b == 0

/-- 'level.Closed', as Go tells it. -/
def clI (l : Int) : Int :=
  let a := if (bits .and .i64 l 16 != 0) = true then bits .or .i64 l 12 else l
  let b := if (bits .and .i64 a 4 != 0) = true then bits .or .i64 a 2 else a
  let c := if (bits .and .i64 b 32 != 0) = true then bits .or .i64 b 1 else b
  bits .and .i64 c 63
theorem and_lit (x : Int) (m : Nat) (hm : m < 64) : (bits .and .i64 x m != 0) = true ↔ ¬ (six x &&& m = 0) := by
  rw [and_small x m hm, bne_iff_ne]
  exact not_congr (by omega)
theorem six_step (x : Int) (m n : Nat) (hm : m < 64) (hn : n < 64) : six (if (bits .and .i64 x m != 0) = true then bits .or .i64 x n else x) = if six x &&& m = 0 then six x else six x ||| n := by
  by_cases h : six x &&& m = 0
  · rw [if_neg (fun e => (and_lit x m hm).1 e h), if_pos h]
  · rw [if_pos ((and_lit x m hm).2 h), if_neg h, six_or, six_nat n hn]
theorem clI_cl (l : Int) : clI l = cl (six l) := by
  have h1 := six_step l 16 12 (by decide) (by decide)
  obtain ⟨a, ha⟩ : ∃ a : Int, a = if (bits .and .i64 l ((16 : Nat) : Int) != 0) = true then bits .or .i64 l ((12 : Nat) : Int) else l := ⟨_, rfl⟩
  rw [← ha] at h1
  have h2 := six_step a 4 2 (by decide) (by decide)
  obtain ⟨b, hb⟩ : ∃ b : Int, b = if (bits .and .i64 a ((4 : Nat) : Int) != 0) = true then bits .or .i64 a ((2 : Nat) : Int) else a := ⟨_, rfl⟩
  rw [← hb] at h2
  have h3 := six_step b 32 1 (by decide) (by decide)
  obtain ⟨c, hc⟩ : ∃ c : Int, c = if (bits .and .i64 b ((32 : Nat) : Int) != 0) = true then bits .or .i64 b ((1 : Nat) : Int) else b := ⟨_, rfl⟩
  rw [← hc] at h3
  have h4 : clI l = bits .and .i64 c ((63 : Nat) : Int) := by subst hc hb ha; rfl
  rw [h4, and_small c 63 (by decide), h3, h2, h1]
  rfl
theorem asksI_ite (l : Int) : (asksI l : Int) = if (l == 1) = true then 1 else if (l == 2) = true then 3 else if (l == 3) = true then 9 else if (l == 4) = true then 5 else if (l == 5) = true then 11 else if (l == 6) = true then 13 else if (l == 7) = true then 17 else if (l == 8) = true then 34 else if (l == 9) = true then 36 else if (l == 10) = true then 44 else if (l == 11) = true then 48 else 0 := by
  by_cases h : 0 ≤ l ∧ l < 12
  · have : ∀ n : Fin 12, (asksI (n.val : Int) : Int) = if ((n.val : Int) == 1) = true then 1 else if ((n.val : Int) == 2) = true then 3 else if ((n.val : Int) == 3) = true then 9 else if ((n.val : Int) == 4) = true then 5 else if ((n.val : Int) == 5) = true then 11 else if ((n.val : Int) == 6) = true then 13 else if ((n.val : Int) == 7) = true then 17 else if ((n.val : Int) == 8) = true then 34 else if ((n.val : Int) == 9) = true then 36 else if ((n.val : Int) == 10) = true then 44 else if ((n.val : Int) == 11) = true then 48 else 0 := by decide +kernel
    have h2 := this ⟨l.toNat, by omega⟩
    rw [show ((⟨l.toNat, by omega⟩ : Fin 12).val : Int) = l from by simp; omega] at h2
    exact h2
  · rw [asksI_out l h]
    simp only [beq_iff_eq]
    repeat rw [if_neg (by omega)]
    rfl

theorem impl_fin (p : Int → Prop) (h : ∀ n : Fin 12, p (n.val : Int)) (x : Int) (h0 : 0 ≤ x) (h1 : x < 12) : p x := by
  have h2 := h ⟨x.toNat, by omega⟩
  rwa [show ((⟨x.toNat, by omega⟩ : Fin 12).val : Int) = x from by simp; omega] at h2
theorem impl_refl (x : Int) (h0 : 0 ≤ x) (h1 : x < 12) : impl x x = true :=
  impl_fin (fun x => impl x x = true) (by decide +kernel) x h0 h1
theorem impl_trans (x y z : Int) (h0 : 0 ≤ x) (h1 : x < 12) (h2 : 0 ≤ y) (h3 : y < 12) (h4 : 0 ≤ z) (h5 : z < 12) : impl x y = true → impl y z = true → impl x z = true :=
  impl_fin (fun x => impl x y = true → impl y z = true → impl x z = true) (fun a => impl_fin (fun y => impl a.val y = true → impl y z = true → impl a.val z = true) (fun b => impl_fin (fun z => impl a.val b.val = true → impl b.val z = true → impl a.val z = true)
    ((by decide +kernel : ∀ a b c : Fin 12, impl (a.val : Int) (b.val : Int) = true → impl (b.val : Int) (c.val : Int) = true → impl (a.val : Int) (c.val : Int) = true) a b) z h4 h5) y h2 h3) x h0 h1
theorem impl_anti (x y : Int) (h0 : 0 ≤ x) (h1 : x < 12) (h2 : 0 ≤ y) (h3 : y < 12) : impl x y = true → impl y x = true → x = y :=
  impl_fin (fun x => impl x y = true → impl y x = true → x = y) (fun a => impl_fin (fun y => impl a.val y = true → impl y a.val = true → (a.val : Int) = y)
    ((by decide +kernel : ∀ a b : Fin 12, impl (a.val : Int) (b.val : Int) = true → impl (b.val : Int) (a.val : Int) = true → (a.val : Int) = (b.val : Int)) a) y h2 h3) x h0 h1

def nameB (l : Nat) : ByteArray := [⟨#[114, 101, 97, 100, 45, 97, 116, 111, 109, 105, 99]⟩, ⟨#[115, 101, 115, 115, 105, 111, 110, 45, 97, 116, 111, 109, 105, 99]⟩, ⟨#[99, 97, 117, 115, 97, 108]⟩, ⟨#[117, 112, 100, 97, 116, 101]⟩, ⟨#[112, 114, 101, 102, 105, 120]⟩, ⟨#[112, 97, 114, 97, 108, 108, 101, 108]⟩, ⟨#[115, 110, 97, 112, 115, 104, 111, 116]⟩, ⟨#[115, 101, 114, 105, 97, 108]⟩, ⟨#[116, 105, 109, 101, 45, 99, 97, 117, 115, 97, 108]⟩, ⟨#[116, 105, 109, 101, 45, 112, 114, 101, 102, 105, 120]⟩, ⟨#[116, 105, 109, 101, 45, 115, 110, 97, 112, 115, 104, 111, 116]⟩, ⟨#[115, 116, 114, 105, 99, 116]⟩].getD l ⟨#[]⟩
def nameI (l : Int) : ByteArray := if 0 ≤ l then nameB l.toNat else ⟨#[]⟩
end Go.Proofs.Ytbpmcjndlbkkiaa
