/- Rows of levels: out of bits, closed, the strongest. No condition but each theorem's own. -/
import Derived.Test.YtbpmcjndlbkkiaaTableLaws2
import Derived.Test.YtbpmcjndlbkkiaaRef10c
set_option linter.unusedVariables false
set_option linter.unusedSimpArgs false
namespace Go.Proofs.Ytbpmcjndlbkkiaa
open Go.RowKit
attribute [local go_sem ↓] zero_all zero_row

theorem u16_and1 (m : Int) (h0 : 0 ≤ m) (h1 : m < 65536) : bits .and .u16 m 1 = m % 2 :=
  bits_mask .u16 16 (by decide) (fun n h0 h1 => by simp only [IntKind.wrap, IntKind.bits, IntKind.signed]; simp; omega) 1 (by decide) m h0 h1
theorem results_row_tmp {P : Program} {fn : Func} {p u : Tmp} {ty : TypeId} (h : fn.results = #[.cell p ty, .tmp u]) (tmps : Array Value) (w : World) (g : Nat) (t : TypeId) (cs : Array Value) (fr : Nat × Nat) (d : TypeDesc)
    (hp : tmps.getD p undef = .pointer (some ⟨g, 0, none⟩)) (hg : w.heap[g]? = some (.cells cs t fr))
    (hu : P.underlying ty = some d) (hd : (match d with | .struct _ | .array _ _ => true | _ => false) = true) (hi : (P.info? ty).map (·.size) = some cs.size) :
    (results fn tmps).run P w = .ok (.tuple #[.agg cs, tmps.getD u undef]) w := by
  have hp' : tmps[p]?.getD undef = .pointer (some ⟨g, 0, none⟩) := by simpa using hp
  simp [results, h, hp', asAddr, run_loadVar_row w g t ty cs fr d hg hu hd hi]
def bitAt (n : Int) (i : Nat) : Bool := decide (n / 2 ^ i % 2 = 1)
/-- The levels of some bits, rising. -/
def levelsOf (n : Int) : List Int := ((List.range 12).filter (bitAt n)).map fun i : Nat => (i : Int)
def levelsTo (n : Int) (k : Nat) : List Int := ((List.range k).filter (bitAt n)).map fun i : Nat => (i : Int)
theorem levelsTo_succ (n : Int) (k : Nat) : levelsTo n (k + 1) = levelsTo n k ++ if bitAt n k then [(k : Int)] else [] := by
  unfold levelsTo
  rw [List.range_succ, List.filter_append, List.map_append]
  cases h : bitAt n k <;> simp [h]
theorem bit_ways (n : Int) (k : Nat) (h0 : 0 ≤ n) (h1 : n ≤ 65535) : (bits .and .u16 (n / 2 ^ k) 1 == 1) = bitAt n k := by
  have hp : (0 : Int) < 2 ^ k := Int.pow_pos (by decide)
  have h2 : 0 ≤ n / 2 ^ k := Int.ediv_nonneg h0 (by omega)
  have h3 : n / 2 ^ k ≤ n := Int.ediv_le_self _ h0
  rw [u16_and1 _ h2 (by omega)]
  rfl
theorem bit_step (n : Int) (k : Nat) (b : Bool) (hb : bitAt n k = b) (j : Nat) : (decide (j < k + 1) && bitAt n j) = if j = k then b else (decide (j < k) && bitAt n j) := by
  by_cases h : j = k
  · rw [if_pos h, h, hb, decide_eq_true (by omega)]; rfl
  · rw [if_neg h, show decide (j < k + 1) = decide (j < k) from decide_eq_decide.2 (by omega)]
theorem levelsTo_le (n : Int) (k : Nat) : (levelsTo n k).length ≤ k := by
  unfold levelsTo
  rw [List.length_map]
  have := List.length_filter_le (bitAt n) (List.range k)
  simpa using this
/-- What 'of' hands back: a row, and the list. -/
def RetOf (n : Int) (w : World) (e : Ending) (w' : World) : Prop := ∃ v, e = .returned (.tuple #[.agg (rowArr (bitAt n)), v]) ∧ Own w' w.heap.size 3 v (levelsOf n) ∧ Ch nob w w'

def rowC (r : Nat → Bool) (a b : Nat) : Bool := !(r a && impl a b && !r b)
def closedTo (r : Nat → Bool) (n : Nat) : Bool := (List.range n).all fun a => (List.range 12).all (rowC r a)
def closedIn (r : Nat → Bool) (a n : Nat) : Bool := (List.range n).all (rowC r a)
def closedF (r : Nat → Bool) : Bool := closedTo r 12
theorem closedTo_succ (r : Nat → Bool) (a : Nat) : closedTo r (a + 1) = (closedTo r a && closedIn r a 12) := rangeAll_succ _ _
theorem closedIn_succ (r : Nat → Bool) (a b : Nat) : closedIn r a (b + 1) = (closedIn r a b && rowC r a b) := rangeAll_succ _ _
theorem closedF_false (r : Nat → Bool) (a b : Nat) (ha : a < 12) (hb : b < 12) (h : rowC r a b = false) : closedF r = false :=
  rangeAll_false (fun a => (List.range 12).all (rowC r a)) 12 a ha (rangeAll_false (rowC r a) 12 b hb h)

end Go.Proofs.Ytbpmcjndlbkkiaa
