/- Small words for worlds: blocks of cells, and what a call may have changed. No condition. -/
import Derived.Test.YtobfanodjdkkoaaDoorProg
import Derived.WalkKit
import Derived.OwnWalk
import Derived.Below
import Derived.Outline
import Derived.Deep.LoopGhost
import Derived.Lib.Hide
import Derived.Laws.AppendOwn
import Derived.Deep.QuietTactic
import Derived.BigQuiet
import Derived.Deep.RegionHeld3
import Derived.Laws.Rows
import Derived.Laws.MakeOwn
import Derived.Laws.OwnMore
import Derived.Laws.BitsLemmas
import Derived.Deep.DeepCutAuto
import Derived.WideLaws
import Derived.KernelRfl
set_option linter.unusedVariables false
set_option linter.unusedSimpArgs false
namespace Go.Proofs.YtobfanodjdkkoaaDoor
open Go.RowKit

/-- Block g holds these cells. -/
def Blk (w : World) (g : Nat) (cs : Array Value) (T : TypeId) : Prop := w.heap[g]? = some (.cells cs T (0, 0))

theorem Blk.lt {w : World} {g : Nat} {cs : Array Value} {T : TypeId} (h : Blk w g cs T) : g < w.heap.size :=
  (Array.getElem?_eq_some_iff.1 h).1
theorem Blk.cell {w : World} {g : Nat} {cs : Array Value} {T : TypeId} (h : Blk w g cs T) {i : Nat} {v : Value} (hv : cs[i]? = some v) :
    w.cell? ⟨g, i, none⟩ = some v := by
  have h' : w.heap[g]? = some (.cells cs T (0, 0)) := h
  simp [World.cell?, h', hv]
theorem Blk.free {w : World} {g : Nat} {cs : Array Value} {T : TypeId} (h : Blk w g cs T) (i : Nat) :
    w.frozen? ⟨g, i, none⟩ = false := by
  have h' : w.heap[g]? = some (.cells cs T (0, 0)) := h
  simp [World.frozen?, h']
theorem Blk.set {w : World} {g : Nat} {cs : Array Value} {T : TypeId} (h : Blk w g cs T) (i : Nat) (v : Value) :
    Blk (w.setCell ⟨g, i, none⟩ v) g (cs.setIfInBounds i v) T := by
  have h' : w.heap[g]? = some (.cells cs T (0, 0)) := h
  simp [Blk, World.setCell, Array.getElem?_modify, h']
theorem Blk.alloc {w : World} {g : Nat} {cs : Array Value} {T : TypeId} (h : Blk w g cs T) (o : Obj) : Blk (w.alloc o) g cs T := by
  have := Below.heap_alloc w o g h.lt
  exact this.trans h
theorem Blk.new (w : World) (cs : Array Value) (T : TypeId) : Blk (w.alloc (.cells cs T)) w.heap.size cs T := by
  show (w.heap.push _)[w.heap.size]? = _
  simp

/-- What a call may have changed of what was there: the blocks of S alone. -/
structure Ch (S : Nat → Prop) (w w' : World) : Prop where
  os : w'.os = w.os
  tape : w'.tape = w.tape
  output : w'.output = w.output
  size : w.heap.size ≤ w'.heap.size
  block : ∀ k, k < w.heap.size → ¬ S k → w'.heap[k]? = w.heap[k]?

def nob : Nat → Prop := fun _ => False
theorem Ch.refl (S : Nat → Prop) (w : World) : Ch S w w := ⟨rfl, rfl, rfl, Nat.le_refl _, fun _ _ _ => rfl⟩
theorem Ch.trans {S T : Nat → Prop} {a b c : World} (h : Ch S a b) (k : Ch T b c) (hT : ∀ i, i < a.heap.size → T i → S i) : Ch S a c :=
  ⟨k.os.trans h.os, k.tape.trans h.tape, k.output.trans h.output, Nat.le_trans h.size k.size, fun i hi hs =>
    (k.block i (Nat.lt_of_lt_of_le hi h.size) (fun ht => hs (hT i hi ht))).trans (h.block i hi hs)⟩
theorem Ch.alloc {S : Nat → Prop} {a w : World} (h : Ch S a w) (o : Obj) : Ch S a (w.alloc o) :=
  h.trans (T := nob) ⟨rfl, rfl, rfl, by simp, fun k hk _ => Below.heap_alloc _ _ _ hk⟩ (fun _ _ h => h.elim)
theorem Ch.setCell {S : Nat → Prop} {a w : World} (h : Ch S a w) (p : Addr) (u : Value) (hp : p.block < a.heap.size → S p.block) : Ch S a (w.setCell p u) :=
  h.trans (T := fun k => k = p.block) ⟨rfl, rfl, rfl, by simp [World.setCell], fun k _ hk => Below.heap_setCell _ _ _ _ hk⟩ (by rintro i hi rfl; exact hp hi)
theorem Ch.drew {S : Nat → Prop} {a w : World} (h : Ch S a w) : Ch S a w.drew := ⟨h.os, h.tape, h.output, h.size, h.block⟩
theorem Ch.drewN {S : Nat → Prop} {a w : World} (h : Ch S a w) (n : Nat) : Ch S a (w.drewN n) := ⟨h.os, h.tape, h.output, h.size, h.block⟩
theorem Ch.grown {S : Nat → Prop} {a w w' : World} {row : Option Nat} (h : Ch S a w) (hg : w.grownBy w' row) (hr : ∀ k, k < a.heap.size → row = some k → S k) : Ch S a w' :=
  h.trans (T := fun k => some k = row) ⟨hg.os, hg.tape, hg.output, hg.size, fun k hk hn => hg.block k hk hn⟩ (fun i hi e => hr i hi e.symm)
theorem Ch.below {w w' : World} (h : Ch nob w w') : Below w.heap.size w w' := ⟨h.os, h.tape, h.output, h.size, fun k hk => h.block k hk (fun h => h)⟩
theorem Ch.of_below {w w' : World} (h : Below w.heap.size w w') : Ch nob w w' := ⟨h.os, h.tape, h.output, h.size, fun k hk _ => h.block k hk⟩
theorem Ch.mono {S T : Nat → Prop} {w w' : World} (h : Ch S w w') (hT : ∀ i, i < w.heap.size → S i → T i) : Ch T w w' :=
  ⟨h.os, h.tape, h.output, h.size, fun k hk hn => h.block k hk (fun hs => hn (hT k hk hs))⟩
/-- Two steps, of which the second one turns nothing, or only what the first one may. -/
theorem Ch.seq {S : Nat → Prop} {a b c : World} (h : Ch S a b) (k : Ch nob b c) : Ch S a c := h.trans k (fun _ _ h => h.elim)
theorem Ch.seqS {S : Nat → Prop} {a b c : World} (h : Ch S a b) (k : Ch S b c) : Ch S a c := h.trans k (fun _ _ h => h)
theorem Blk.ch {S : Nat → Prop} {w w' : World} {g : Nat} {cs : Array Value} {T : TypeId} (h : Blk w g cs T) (hc : Ch S w w') (hn : ¬ S g) : Blk w' g cs T :=
  (hc.block g h.lt hn).trans h
theorem Blk.drew {w : World} {g : Nat} {cs : Array Value} {T : TypeId} (h : Blk w g cs T) : Blk w.drew g cs T := h
theorem ret_int {k : IntKind} {a b : Int} (h : a = b) : Ending.returned (.int k a) = .returned (.int k b) := by rw [h]
theorem ret_bool {a b : Bool} (h : a = b) : Ending.returned (.bool a) = .returned (.bool b) := by rw [h]
/-- Only draws have been made. -/
def Dr (w w' : World) : Prop := ∃ n, w' = w.drewN n
theorem Dr.refl (w : World) : Dr w w := ⟨0, rfl⟩
theorem Dr.step {w w' : World} (h : Dr w w') (n : Nat) : Dr w (w'.drewN n) := by
  obtain ⟨m, rfl⟩ := h
  exact ⟨m + n, World.drewN_drewN ..⟩
theorem Dr.drew {w w' : World} (h : Dr w w') : Dr w w'.drew := h.step 1
theorem Dr.trans {a b c : World} (h : Dr a b) (k : Dr b c) : Dr a c := by
  obtain ⟨n, rfl⟩ := k
  exact h.step n
theorem Dr.ch {w w' : World} (h : Dr w w') : Ch nob w w' := by
  obtain ⟨n, rfl⟩ := h
  exact (Ch.refl _ _).drewN n
theorem Dr.heap {w w' : World} (h : Dr w w') : w'.heap = w.heap := by
  obtain ⟨n, rfl⟩ := h
  rfl
theorem Dr.cell {w w' : World} (h : Dr w w') {a : Addr} {v : Option Value} (hc : w.cell? a = v) : w'.cell? a = v := by
  obtain ⟨n, rfl⟩ := h
  exact hc

/-- Go's max and min of two ints, kept whole by the walk. -/
def imax (a b : Int) : Int := max a b
def imin (a b : Int) : Int := min a b
theorem max_imax (ats : Array TypeId) (ty : TypeId) (k k' : IntKind) (a b : Int) : Builtin.max_ ats ty #[.int k a, .int k' b] = pure (.int k (imax a b)) := by
  have : (if a < b then b else a) = imax a b := by unfold imax; split <;> omega
  simp only [Builtin.max_, List.foldlM_cons, List.foldlM_nil, Builtin.max2, gt_iff_lt, this]
  rfl
theorem min_imin (ats : Array TypeId) (ty : TypeId) (k k' : IntKind) (a b : Int) : Builtin.min_ ats ty #[.int k a, .int k' b] = pure (.int k (imin a b)) := by
  have : (if b < a then b else a) = imin a b := by unfold imin; split <;> omega
  simp only [Builtin.min_, List.foldlM_cons, List.foldlM_nil, Builtin.min2, this]
  rfl
/-- An array's element of one cell. -/
theorem run_index_one {P : Program} {T e : TypeId} {len : Nat} (hT : P.underlying T = some (.array len e)) (w : World)
    (hag : (isAgg e).run P w = .ok false w) (hs : (sizeOf e).run P w = .ok 1 w) (cs : Array Value) (k : IntKind) (i : Int) (v : Value) (h0 : 0 ≤ i) (h1 : i < len) (hv : cs[i.toNat]? = some v) :
    (Instr.index T (.agg cs) (.int k i)).run P w = .ok v w := by
  simp [Instr.index, asIntOf, run_underlying hT, h0, h1, hs, part, hag, hv]

/-- What was there is as it was; new blocks and changes of new ones go on. -/
theorem Ch.fresh {a b c : World} {g : Nat} (h : Ch nob a b) (k : Ch (· = g) b c) (hg : a.heap.size ≤ g) : Ch nob a c :=
  h.trans k (fun i hi e => by have e' : i = g := e; omega)

end Go.Proofs.YtobfanodjdkkoaaDoor
