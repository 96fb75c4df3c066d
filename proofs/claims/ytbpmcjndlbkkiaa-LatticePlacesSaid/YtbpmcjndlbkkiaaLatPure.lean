/- Plain law: the weakest levels that a row lacks; and levels in words. No condition. -/
import Derived.Test.YtbpmcjndlbkkiaaTablePure2
import Derived.Test.YtbpmcjndlbkkiaaNames
import Derived.Lib.Join
set_option linter.unusedVariables false
set_option linter.unusedSimpArgs false
namespace Go.Proofs.Ytbpmcjndlbkkiaa
open Go.RowKit

def lowC (r : Nat → Bool) (l b : Nat) : Bool := r b || b == l || !impl l b
def lowR (r : Nat → Bool) (l n : Nat) : Bool := !r l && (List.range n).all (lowC r l)
theorem lowR_zero (r : Nat → Bool) (l : Nat) : lowR r l 0 = !r l := by simp [lowR]
theorem lowR_succ (r : Nat → Bool) (l b : Nat) : lowR r l (b + 1) = (lowR r l b && lowC r l b) := by unfold lowR; rw [rangeAll_succ, Bool.and_assoc]
def weakTo (r : Nat → Bool) (n : Nat) : List Int := ((List.range n).filter fun l => lowR r l 12).map fun i : Nat => (i : Int)
def weakR (r : Nat → Bool) : List Int := weakTo r 12
theorem weakTo_succ (r : Nat → Bool) (l : Nat) : weakTo r (l + 1) = weakTo r l ++ if lowR r l 12 then [(l : Int)] else [] := by
  unfold weakTo
  rw [List.range_succ, List.filter_append, List.map_append]
  cases h : lowR r l 12 <;> simp [h]
theorem weakTo_le (r : Nat → Bool) (l : Nat) : (weakTo r l).length ≤ l := by
  unfold weakTo
  rw [List.length_map]
  have := List.length_filter_le (fun b => lowR r b 12) (List.range l)
  simpa using this

def lowTo (l : List Int) (a : Int) (k : Nat) : Bool := (l.take k).all fun b => b == a || !impl a b
def lowB (l : List Int) (a : Int) : Bool := l.all fun b => b == a || !impl a b
theorem lowTo_succ (l : List Int) (a : Int) (k : Nat) (h : k < l.length) : lowTo l a (k + 1) = (lowTo l a k && (l.getD k 0 == a || !impl a (l.getD k 0))) := all_take_succ l _ k h
theorem lowTo_all (l : List Int) (a : Int) : lowTo l a l.length = lowB l a := by unfold lowTo; rw [List.take_length]; rfl
def weakL (l : List Int) : List Int := l.filter (lowB l)

theorem lowB_listR (r : Nat → Bool) (i : Nat) : (lowB (listR fun k => !r k) i && !r i) = lowR r i 12 := by
  unfold lowR lowB
  rw [Bool.and_comm]
  congr 1
  rw [Bool.eq_iff_iff, List.all_eq_true, List.all_eq_true]
  constructor
  · intro h a ha
    rw [List.mem_range] at ha
    cases hra : r a with
    | true => simp [lowC, hra]
    | false =>
      have := h a ((mem_listR _ _).2 ⟨a, ha, by simp [hra], rfl⟩)
      by_cases e : a = i
      · simp [lowC, e]
      · have hne : ((a : Int) == (i : Int)) = false := by simp; omega
        rw [hne, Bool.false_or] at this
        simp [lowC, this]
  · intro h x hx
    obtain ⟨a, h1, h2, rfl⟩ := (mem_listR _ x).1 hx
    have := h a (List.mem_range.2 h1)
    by_cases e : a = i
    · simp [e]
    · have hr : r a = false := by simpa using h2
      have h4 : impl (i : Int) (a : Int) = false := by simpa [lowC, hr, e] using this
      simp [h4]
theorem weak_rows (r : Nat → Bool) : weakR r = weakL (listR fun k => !r k) := by
  unfold weakR weakTo weakL
  conv => rhs; rw [listR]
  rw [List.filter_map]
  congr 1
  rw [List.filter_filter]
  refine List.filter_congr fun i _ => ?_
  exact (lowB_listR r i).symm

/-- Levels in words, each behind a blank. -/
def wordsT (l : List Int) : List UInt8 := (l.map fun x => 32 :: (nameI x).data.toList).flatten
theorem wordsT_eq (l : List Int) : wordsT l = Lib.joinTail [32] (l.map fun x => (nameI x).data.toList) := by
  unfold wordsT Lib.joinTail
  rw [List.map_map]
  rfl
theorem lat_snoc (l : List Int) (k : Nat) (h : k < l.length) : l.take (k + 1) = l.take k ++ [l.getD k 0] := by
  rw [List.take_add_one, List.getElem?_eq_getElem h, List.getD_eq_getElem?_getD, List.getElem?_eq_getElem h]; rfl
theorem wordsT_succ (l : List Int) (k : Nat) (h : k < l.length) : wordsT (l.take (k + 1)) = wordsT (l.take k) ++ 32 :: (nameI (l.getD k 0)).data.toList := by
  rw [lat_snoc l k h]
  unfold wordsT
  simp
theorem nameI_len (x : Int) : (nameI x).size ≤ 20 := by
  by_cases h : 0 ≤ x ∧ x < 12
  · obtain ⟨n, rfl⟩ := Int.eq_ofNat_of_zero_le h.1
    have hn : n < 12 := by omega
    have : ∀ n : Fin 12, (nameI (n.val : Int)).size ≤ 20 := by decide +kernel
    exact this ⟨n, hn⟩
  · rw [nameI_out x h]; decide
theorem wordsT_len (l : List Int) : (wordsT l).length ≤ 21 * l.length := by
  induction l with
  | nil => simp [wordsT]
  | cons x l ih =>
    have h1 : (nameI x).data.toList.length ≤ 20 := nameI_len x
    have h2 : wordsT (x :: l) = (32 :: (nameI x).data.toList) ++ wordsT l := by simp [wordsT]
    rw [h2, List.length_append, List.length_cons, List.length_cons]
    omega
/-- Levels in words; '-' of none. -/
def wordsB (l : List Int) : ByteArray := if l = [] then ⟨#[45]⟩ else ⟨(Lib.join (l.map fun x => (nameI x).data.toList) [32]).toArray⟩
/-- A blank ahead of the words is the words, each behind a blank. -/
theorem words_blank (l : List Int) : 32 :: (wordsB l).data.toList = if wordsT l = [] then [32, 45] else wordsT l := by
  cases l with
  | nil => simp [wordsB, wordsT]
  | cons x l =>
    have h1 : wordsT (x :: l) = 32 :: (wordsB (x :: l)).data.toList := by
      rw [wordsT_eq]
      unfold wordsB
      rw [if_neg (by simp), List.map_cons, Lib.join_cons]
      simp [Lib.joinTail]
    rw [h1, if_neg (by simp)]
theorem wordsB_len (l : List Int) : (wordsB l).size ≤ 21 * l.length + 2 := by
  have h1 := congrArg List.length (words_blank l)
  have h2 := wordsT_len l
  have h3 : (wordsB l).size = (wordsB l).data.toList.length := rfl
  rw [h3]
  rw [List.length_cons] at h1
  split at h1 <;> simp at h1 <;> omega

/-- The levels of a row below a number. -/
def levTo (r : Nat → Bool) (k : Nat) : List Int := ((List.range k).filter r).map fun i : Nat => (i : Int)
theorem levTo_all (r : Nat → Bool) : levTo r 12 = listR r := rfl
theorem levTo_succ (r : Nat → Bool) (k : Nat) : levTo r (k + 1) = levTo r k ++ if r k then [(k : Int)] else [] := by
  unfold levTo
  rw [List.range_succ, List.filter_append, List.map_append]
  cases h : r k <;> simp [h]
theorem levTo_le (r : Nat → Bool) (k : Nat) : (levTo r k).length ≤ k := by
  unfold levTo
  rw [List.length_map]
  have := List.length_filter_le r (List.range k)
  simpa using this
theorem mem_levTo (r : Nat → Bool) (k : Nat) (x : Int) : x ∈ levTo r k ↔ ∃ i : Nat, i < k ∧ r i = true ∧ x = (i : Int) := by
  unfold levTo
  simp only [List.mem_map, List.mem_filter, List.mem_range]
  constructor
  · rintro ⟨i, ⟨h1, h2⟩, h3⟩; exact ⟨i, h1, h2, h3.symm⟩
  · rintro ⟨i, h1, h2, h3⟩; exact ⟨i, ⟨h1, h2⟩, h3.symm⟩
theorem levTo_apart (r : Nat → Bool) (j k : Nat) : ∀ x ∈ levTo r j, x ∉ levTo (fun i => !r i) k := by
  intro x h1 h2
  obtain ⟨a, _, ha, rfl⟩ := (mem_levTo _ _ _).1 h1
  obtain ⟨b, _, hb, hab⟩ := (mem_levTo _ _ _).1 h2
  obtain rfl : a = b := by omega
  simp [ha] at hb
/-- Words, each behind a blank, as bytes. -/
def wordsA (l : List Int) : ByteArray := ⟨(wordsT l).toArray⟩
theorem wordsA_nil : wordsA [] = ⟨#[]⟩ := rfl
theorem wordsA_succ (l : List Int) (k : Nat) (h : k < l.length) : wordsA (l.take k) ++ (⟨#[32]⟩ ++ nameI (l.getD k 0)) = wordsA (l.take (k + 1)) := by
  unfold wordsA
  rw [wordsT_succ l k h]
  apply ByteArray.ext
  rw [ByteArray.data_append, ByteArray.data_append]
  simp [← Array.toList_inj]
theorem wordsA_len (l : List Int) : (wordsA l).size ≤ 21 * l.length := by
  have := wordsT_len l
  unfold wordsA
  simpa [ByteArray.size] using this
end Go.Proofs.Ytbpmcjndlbkkiaa
