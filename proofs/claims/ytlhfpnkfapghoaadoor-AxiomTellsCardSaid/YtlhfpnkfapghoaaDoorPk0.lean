/- Texts of this claim, merged: Kit Arr Ops Ch Sl SortA SortB SortC SortD SortE SortF. -/
import Derived.Test.YtlhfpnkfapghoaaDoorProg
import Derived.WalkKit
import Derived.OwnWalk
import Derived.Below
import Derived.Outline
import Derived.Deep.LoopGhost
import Derived.Lib.Hide
import Derived.Laws.AppendOwn
import Derived.Deep.QuietTactic
import Derived.BigQuiet
import Derived.Deep.RegionHeld3
import Derived.Laws.Rows
import Derived.Laws.MakeOwn
import Derived.Laws.OwnMore
import Derived.Laws.BitsLemmas
import Derived.Deep.DeepCutAuto
import Derived.WideLaws
import Derived.KernelRfl
import Derived.Laws.Tables
import Derived.Deep.RegionWith
import Derived.Deep.MidRow
import Derived.Laws.AppendOwnNone
import Derived.IntWalk
section
/- Small words for worlds: blocks of cells, and what a call may have changed. No condition. -/
set_option linter.unusedVariables false
set_option linter.unusedSimpArgs false
namespace Go.Proofs.YtlhfpnkfapghoaaDoor
open Go.RowKit

/-- Block g holds these cells. -/
def Blk (w : World) (g : Nat) (cs : Array Value) (T : TypeId) : Prop := w.heap[g]? = some (.cells cs T (0, 0))

theorem Blk.lt {w : World} {g : Nat} {cs : Array Value} {T : TypeId} (h : Blk w g cs T) : g < w.heap.size :=
  (Array.getElem?_eq_some_iff.1 h).1
theorem Blk.cell {w : World} {g : Nat} {cs : Array Value} {T : TypeId} (h : Blk w g cs T) {i : Nat} {v : Value} (hv : cs[i]? = some v) :
    w.cell? ⟨g, i, none⟩ = some v := by
  have h' : w.heap[g]? = some (.cells cs T (0, 0)) := h
  simp [World.cell?, h', hv]
theorem Blk.free {w : World} {g : Nat} {cs : Array Value} {T : TypeId} (h : Blk w g cs T) (i : Nat) :
    w.frozen? ⟨g, i, none⟩ = false := by
  have h' : w.heap[g]? = some (.cells cs T (0, 0)) := h
  simp [World.frozen?, h']
theorem Blk.set {w : World} {g : Nat} {cs : Array Value} {T : TypeId} (h : Blk w g cs T) (i : Nat) (v : Value) :
    Blk (w.setCell ⟨g, i, none⟩ v) g (cs.setIfInBounds i v) T := by
  have h' : w.heap[g]? = some (.cells cs T (0, 0)) := h
  simp [Blk, World.setCell, Array.getElem?_modify, h']
theorem Blk.alloc {w : World} {g : Nat} {cs : Array Value} {T : TypeId} (h : Blk w g cs T) (o : Obj) : Blk (w.alloc o) g cs T := by
  have := Below.heap_alloc w o g h.lt
  exact this.trans h
theorem Blk.new (w : World) (cs : Array Value) (T : TypeId) : Blk (w.alloc (.cells cs T)) w.heap.size cs T := by
  show (w.heap.push _)[w.heap.size]? = _
  simp

/-- What a call may have changed of what was there: the blocks of S alone. -/
structure Ch (S : Nat → Prop) (w w' : World) : Prop where
  os : w'.os = w.os
  tape : w'.tape = w.tape
  output : w'.output = w.output
  size : w.heap.size ≤ w'.heap.size
  block : ∀ k, k < w.heap.size → ¬ S k → w'.heap[k]? = w.heap[k]?

def nob : Nat → Prop := fun _ => False
theorem Ch.refl (S : Nat → Prop) (w : World) : Ch S w w := ⟨rfl, rfl, rfl, Nat.le_refl _, fun _ _ _ => rfl⟩
theorem Ch.trans {S T : Nat → Prop} {a b c : World} (h : Ch S a b) (k : Ch T b c) (hT : ∀ i, i < a.heap.size → T i → S i) : Ch S a c :=
  ⟨k.os.trans h.os, k.tape.trans h.tape, k.output.trans h.output, Nat.le_trans h.size k.size, fun i hi hs =>
    (k.block i (Nat.lt_of_lt_of_le hi h.size) (fun ht => hs (hT i hi ht))).trans (h.block i hi hs)⟩
theorem Ch.alloc {S : Nat → Prop} {a w : World} (h : Ch S a w) (o : Obj) : Ch S a (w.alloc o) :=
  h.trans (T := nob) ⟨rfl, rfl, rfl, by simp, fun k hk _ => Below.heap_alloc _ _ _ hk⟩ (fun _ _ h => h.elim)
theorem Ch.setCell {S : Nat → Prop} {a w : World} (h : Ch S a w) (p : Addr) (u : Value) (hp : p.block < a.heap.size → S p.block) : Ch S a (w.setCell p u) :=
  h.trans (T := fun k => k = p.block) ⟨rfl, rfl, rfl, by simp [World.setCell], fun k _ hk => Below.heap_setCell _ _ _ _ hk⟩ (by rintro i hi rfl; exact hp hi)
theorem Ch.drew {S : Nat → Prop} {a w : World} (h : Ch S a w) : Ch S a w.drew := ⟨h.os, h.tape, h.output, h.size, h.block⟩
theorem Ch.drewN {S : Nat → Prop} {a w : World} (h : Ch S a w) (n : Nat) : Ch S a (w.drewN n) := ⟨h.os, h.tape, h.output, h.size, h.block⟩
theorem Ch.grown {S : Nat → Prop} {a w w' : World} {row : Option Nat} (h : Ch S a w) (hg : w.grownBy w' row) (hr : ∀ k, k < a.heap.size → row = some k → S k) : Ch S a w' :=
  h.trans (T := fun k => some k = row) ⟨hg.os, hg.tape, hg.output, hg.size, fun k hk hn => hg.block k hk hn⟩ (fun i hi e => hr i hi e.symm)
theorem Ch.below {w w' : World} (h : Ch nob w w') : Below w.heap.size w w' := ⟨h.os, h.tape, h.output, h.size, fun k hk => h.block k hk (fun h => h)⟩
theorem Ch.of_below {w w' : World} (h : Below w.heap.size w w') : Ch nob w w' := ⟨h.os, h.tape, h.output, h.size, fun k hk _ => h.block k hk⟩
theorem Ch.mono {S T : Nat → Prop} {w w' : World} (h : Ch S w w') (hT : ∀ i, i < w.heap.size → S i → T i) : Ch T w w' :=
  ⟨h.os, h.tape, h.output, h.size, fun k hk hn => h.block k hk (fun hs => hn (hT k hk hs))⟩
/-- Two steps, of which the second one turns nothing, or only what the first one may. -/
theorem Ch.seq {S : Nat → Prop} {a b c : World} (h : Ch S a b) (k : Ch nob b c) : Ch S a c := h.trans k (fun _ _ h => h.elim)
theorem Ch.seqS {S : Nat → Prop} {a b c : World} (h : Ch S a b) (k : Ch S b c) : Ch S a c := h.trans k (fun _ _ h => h)
theorem Blk.ch {S : Nat → Prop} {w w' : World} {g : Nat} {cs : Array Value} {T : TypeId} (h : Blk w g cs T) (hc : Ch S w w') (hn : ¬ S g) : Blk w' g cs T :=
  (hc.block g h.lt hn).trans h
theorem Blk.drew {w : World} {g : Nat} {cs : Array Value} {T : TypeId} (h : Blk w g cs T) : Blk w.drew g cs T := h
theorem ret_int {k : IntKind} {a b : Int} (h : a = b) : Ending.returned (.int k a) = .returned (.int k b) := by rw [h]
theorem ret_bool {a b : Bool} (h : a = b) : Ending.returned (.bool a) = .returned (.bool b) := by rw [h]
/-- Only draws have been made. -/
def Dr (w w' : World) : Prop := ∃ n, w' = w.drewN n
theorem Dr.refl (w : World) : Dr w w := ⟨0, rfl⟩
theorem Dr.step {w w' : World} (h : Dr w w') (n : Nat) : Dr w (w'.drewN n) := by
  obtain ⟨m, rfl⟩ := h
  exact ⟨m + n, World.drewN_drewN ..⟩
theorem Dr.drew {w w' : World} (h : Dr w w') : Dr w w'.drew := h.step 1
theorem Dr.trans {a b c : World} (h : Dr a b) (k : Dr b c) : Dr a c := by
  obtain ⟨n, rfl⟩ := k
  exact h.step n
theorem Dr.ch {w w' : World} (h : Dr w w') : Ch nob w w' := by
  obtain ⟨n, rfl⟩ := h
  exact (Ch.refl _ _).drewN n
theorem Dr.heap {w w' : World} (h : Dr w w') : w'.heap = w.heap := by
  obtain ⟨n, rfl⟩ := h
  rfl
theorem Dr.cell {w w' : World} (h : Dr w w') {a : Addr} {v : Option Value} (hc : w.cell? a = v) : w'.cell? a = v := by
  obtain ⟨n, rfl⟩ := h
  exact hc

/-- Go's max and min of two ints, kept whole by the walk. -/
def imax (a b : Int) : Int := max a b
def imin (a b : Int) : Int := min a b
theorem max_imax (ats : Array TypeId) (ty : TypeId) (k k' : IntKind) (a b : Int) : Builtin.max_ ats ty #[.int k a, .int k' b] = pure (.int k (imax a b)) := by
  have : (if a < b then b else a) = imax a b := by unfold imax; split <;> omega
  simp only [Builtin.max_, List.foldlM_cons, List.foldlM_nil, Builtin.max2, gt_iff_lt, this]
  rfl
theorem min_imin (ats : Array TypeId) (ty : TypeId) (k k' : IntKind) (a b : Int) : Builtin.min_ ats ty #[.int k a, .int k' b] = pure (.int k (imin a b)) := by
  have : (if b < a then b else a) = imin a b := by unfold imin; split <;> omega
  simp only [Builtin.min_, List.foldlM_cons, List.foldlM_nil, Builtin.min2, this]
  rfl
/-- An array's element of one cell. -/
theorem run_index_one {P : Program} {T e : TypeId} {len : Nat} (hT : P.underlying T = some (.array len e)) (w : World)
    (hag : (isAgg e).run P w = .ok false w) (hs : (sizeOf e).run P w = .ok 1 w) (cs : Array Value) (k : IntKind) (i : Int) (v : Value) (h0 : 0 ≤ i) (h1 : i < len) (hv : cs[i.toNat]? = some v) :
    (Instr.index T (.agg cs) (.int k i)).run P w = .ok v w := by
  simp [Instr.index, asIntOf, run_underlying hT, h0, h1, hs, part, hag, hv]

/-- What was there is as it was; new blocks and changes of new ones go on. -/
theorem Ch.fresh {a b c : World} {g : Nat} (h : Ch nob a b) (k : Ch (· = g) b c) (hg : a.heap.size ≤ g) : Ch nob a c :=
  h.trans k (fun i hi e => by have e' : i = g := e; omega)

end Go.Proofs.YtlhfpnkfapghoaaDoor
end

section
/- Arrays as functions of the index: their cells, reads and stores, whole and one by one. No condition. -/
set_option linter.unusedVariables false
set_option linter.unusedSimpArgs false
namespace Go.Proofs.YtlhfpnkfapghoaaDoor
open Go.RowKit

/-- An array's cells, by a function of the index. -/
def arrOf (n : Nat) (f : Nat → Value) : Array Value := Array.ofFn (n := n) fun i => f i.val
theorem arrOf_size (n : Nat) (f : Nat → Value) : (arrOf n f).size = n := by simp [arrOf]
theorem arrOf_get (n : Nat) (f : Nat → Value) (i : Nat) (h : i < n) : (arrOf n f)[i]? = some (f i) := by
  simp [arrOf, Array.getElem?_ofFn, h]
theorem arrOf_ext {n : Nat} {f g : Nat → Value} (h : ∀ i, i < n → f i = g i) : arrOf n f = arrOf n g := by
  unfold arrOf
  congr 1
  funext i
  exact h i.val i.isLt
theorem arrOf_set (n : Nat) (f : Nat → Value) (i : Nat) (v : Value) : (arrOf n f).setIfInBounds i v = arrOf n fun k => if k = i then v else f k := by
  apply Array.ext
  · simp [arrOf]
  · intro j h1 h2
    simp only [arrOf, Array.size_setIfInBounds, Array.size_ofFn] at h1 h2
    simp only [arrOf, Array.getElem_setIfInBounds, Array.getElem_ofFn]
    split <;> simp_all [eq_comm]
theorem arrOf_cells (n : Nat) (f : Nat → Value) (h : ∀ i, i < n → (f i).oneCell' = true) : (arrOf n f).all (·.oneCell') = true := by
  rw [Array.all_eq_true]
  intro i hi
  simp only [arrOf, Array.getElem_ofFn]
  exact h i (by rwa [arrOf_size] at hi)
theorem arrOf_extract (n : Nat) (f : Nat → Value) (a m : Nat) (h : a + m ≤ n) : (arrOf n f).extract a (a + m) = arrOf m fun k => f (a + k) := by
  apply Array.ext
  · simp [arrOf]; omega
  · intro j h1 h2
    simp [arrOf, Array.getElem_extract]

theorem Blk.row {w : World} {g : Nat} {cs : Array Value} {T : TypeId} (h : Blk w g cs T) (cs' : Array Value) : Blk (w.setRow g cs') g cs' T :=
  setRow_heap w g cs cs' T (0, 0) h
theorem Ch.setRow {S : Nat → Prop} {a w : World} (h : Ch S a w) (g : Nat) (cs : Array Value) (hp : g < a.heap.size → S g) : Ch S a (w.setRow g cs) :=
  h.trans (T := fun k => k = g) ⟨rfl, rfl, rfl, by simp, fun k _ hk => setRow_other w g k cs hk⟩ (by rintro i hi rfl; exact hp hi)
theorem Blk.cellOf {w : World} {g n : Nat} {f : Nat → Value} {T : TypeId} (h : Blk w g (arrOf n f) T) (i : Nat) (hi : i < n) : w.cell? ⟨g, i, none⟩ = some (f i) :=
  h.cell (arrOf_get n f i hi)
theorem Blk.setOf {w : World} {g n : Nat} {f : Nat → Value} {T : TypeId} (h : Blk w g (arrOf n f) T) (i : Nat) (v : Value) : Blk (w.setCell ⟨g, i, none⟩ v) g (arrOf n fun k => if k = i then v else f k) T := by
  have := h.set i v
  rwa [arrOf_set] at this
theorem Blk.congr {w : World} {g n : Nat} {f f' : Nat → Value} {T : TypeId} (h : Blk w g (arrOf n f) T) (he : ∀ i, i < n → f i = f' i) : Blk w g (arrOf n f') T := by
  rwa [arrOf_ext he] at h
theorem one_new (w : World) (cs : Array Value) (T : TypeId) : Blk (w.alloc (.cells cs T)) w.heap.size cs T ∧ Ch nob w (w.alloc (.cells cs T)) ∧ (w.alloc (.cells cs T)).heap.size = w.heap.size + 1 :=
  ⟨Blk.new _ _ _, (Ch.refl _ _).alloc _, by simp⟩
theorem two_new (w : World) (cs cs' : Array Value) (T T' : TypeId) : Blk ((w.alloc (.cells cs T)).alloc (.cells cs' T')) w.heap.size cs T ∧ Blk ((w.alloc (.cells cs T)).alloc (.cells cs' T')) (w.heap.size + 1) cs' T' ∧ Ch nob w ((w.alloc (.cells cs T)).alloc (.cells cs' T')) ∧ ((w.alloc (.cells cs T)).alloc (.cells cs' T')).heap.size = w.heap.size + 2 :=
  ⟨(Blk.new _ _ _).alloc _, by simpa using Blk.new (w.alloc (.cells cs T)) cs' T', ((Ch.refl _ _).alloc _).alloc _, by simp⟩

/-- An array's element that is itself an array or a struct. -/
theorem run_index_agg {P : Program} {T e : TypeId} {len s : Nat} (hT : P.underlying T = some (.array len e)) (w : World)
    (hag : (isAgg e).run P w = .ok true w) (hs : (sizeOf e).run P w = .ok s w) (cs : Array Value) (k : IntKind) (i : Int) (h0 : 0 ≤ i) (h1 : i < len) :
    (Instr.index T (.agg cs) (.int k i)).run P w = .ok (.agg (cs.extract (i.toNat * s) (i.toNat * s + s))) w := by
  simp [Instr.index, asIntOf, run_underlying hT, h0, h1, hs, part, hag]
end Go.Proofs.YtlhfpnkfapghoaaDoor
end

section
/- Rows of operations in a block: reads, and what a store of one leaves. No condition. -/
set_option linter.unusedVariables false
set_option linter.unusedSimpArgs false
namespace Go.Proofs.YtlhfpnkfapghoaaDoor
open Go.RowKit

/-- An operation: does it write, its key, its value. -/
structure Opn where
  wr : Bool
  key : Int
  val : Int
deriving DecidableEq
def opCells (o : Opn) : List Value := [.bool o.wr, .int .i64 o.key, .int .i64 o.val]
def opZero : Opn := ⟨false, 0, 0⟩
def opCell (o : Opn) : Nat → Value
  | 0 => .bool o.wr
  | 1 => .int .i64 o.key
  | _ => .int .i64 o.val
/-- A block's cells: n operations, and whatever lies behind them. -/
def opF (D : Nat → Opn) (R : Nat → Value) (n : Nat) (c : Nat) : Value := if c < 3 * n then opCell (D (c / 3)) (c % 3) else R c
def upd (D : Nat → Opn) (i : Nat) (x : Opn) : Nat → Opn := fun k => if k = i then x else D k
theorem opF_at (D : Nat → Opn) (R : Nat → Value) (n i : Nat) (h : i < n) : opF D R n (i * 3) = .bool (D i).wr ∧ opF D R n (i * 3 + 1) = .int .i64 (D i).key ∧ opF D R n (i * 3 + 2) = .int .i64 (D i).val := by
  unfold opF
  rw [if_pos (by omega), if_pos (by omega), if_pos (by omega), show i * 3 / 3 = i from by omega, show i * 3 % 3 = 0 from by omega, show (i * 3 + 1) / 3 = i from by omega, show (i * 3 + 1) % 3 = 1 from by omega, show (i * 3 + 2) / 3 = i from by omega, show (i * 3 + 2) % 3 = 2 from by omega]
  exact ⟨rfl, rfl, rfl⟩
/-- A block that holds n operations. -/
def OpBlk (w : World) (g N : Nat) (D : Nat → Opn) (R : Nat → Value) (n : Nat) (T : TypeId) : Prop := Blk w g (arrOf N (opF D R n)) T ∧ 3 * n ≤ N
theorem OpBlk.at {w : World} {g N : Nat} {D : Nat → Opn} {R : Nat → Value} {n : Nat} {T : TypeId} (h : OpBlk w g N D R n T) (i : Nat) (hi : i < n) :
    w.cell? ⟨g, i * 3, none⟩ = some (.bool (D i).wr) ∧ w.cell? ⟨g, i * 3 + 1, none⟩ = some (.int .i64 (D i).key) ∧ w.cell? ⟨g, i * 3 + 2, none⟩ = some (.int .i64 (D i).val) := by
  obtain ⟨hb, hN⟩ := h
  obtain ⟨h0, h1, h2⟩ := opF_at D R n i hi
  exact ⟨by rw [hb.cellOf _ (by omega), h0], by rw [hb.cellOf _ (by omega), h1], by rw [hb.cellOf _ (by omega), h2]⟩
theorem OpBlk.free {w : World} {g N : Nat} {D : Nat → Opn} {R : Nat → Value} {n : Nat} {T : TypeId} (h : OpBlk w g N D R n T) (i : Nat) : w.frozen? ⟨g, i, none⟩ = false := h.1.free i
theorem OpBlk.ch {S : Nat → Prop} {w w' : World} {g N : Nat} {D : Nat → Opn} {R : Nat → Value} {n : Nat} {T : TypeId} (h : OpBlk w g N D R n T) (hc : Ch S w w') (hn : ¬ S g) : OpBlk w' g N D R n T := ⟨h.1.ch hc hn, h.2⟩
theorem OpBlk.keep {w w' : World} {g N : Nat} {D : Nat → Opn} {R : Nat → Value} {n : Nat} {T : TypeId} (h : OpBlk w g N D R n T) (hc : Ch nob w w') : OpBlk w' g N D R n T := h.ch hc (fun h => h)
theorem OpBlk.drew {w : World} {g N : Nat} {D : Nat → Opn} {R : Nat → Value} {n : Nat} {T : TypeId} (h : OpBlk w g N D R n T) : OpBlk w.drew g N D R n T := ⟨h.1.drew, h.2⟩
theorem OpBlk.congr {w : World} {g N : Nat} {D D' : Nat → Opn} {R : Nat → Value} {n : Nat} {T : TypeId} (h : OpBlk w g N D R n T) (he : ∀ i, i < n → D i = D' i) : OpBlk w g N D' R n T :=
  ⟨h.1.congr fun c _ => by
    unfold opF
    by_cases hc : c < 3 * n
    · rw [if_pos hc, if_pos hc, he (c / 3) (by omega)]
    · rw [if_neg hc, if_neg hc], h.2⟩
/-- One operation stored, cell by cell. -/
def putOp (w : World) (g i : Nat) (x : Opn) : World := ((w.setCell ⟨g, i * 3, none⟩ (.bool x.wr)).setCell ⟨g, i * 3 + 1, none⟩ (.int .i64 x.key)).setCell ⟨g, i * 3 + 2, none⟩ (.int .i64 x.val)
theorem OpBlk.put {w : World} {g N : Nat} {D : Nat → Opn} {R : Nat → Value} {n : Nat} {T : TypeId} (h : OpBlk w g N D R n T) (i : Nat) (hi : i < n) (x : Opn) : OpBlk (putOp w g i x) g N (upd D i x) R n T := by
  refine ⟨(((h.1.setOf (i * 3) (.bool x.wr)).setOf (i * 3 + 1) (.int .i64 x.key)).setOf (i * 3 + 2) (.int .i64 x.val)).congr fun c _ => ?_, h.2⟩
  unfold opF upd
  by_cases hc : c < 3 * n
  · rw [if_pos hc, if_pos hc]
    by_cases e : c / 3 = i
    · rw [if_pos e]
      have h3 : c % 3 = 0 ∨ c % 3 = 1 ∨ c % 3 = 2 := by omega
      rcases h3 with h3 | h3 | h3
      · rw [if_neg (by omega), if_neg (by omega), if_pos (by omega), h3]; rfl
      · rw [if_neg (by omega), if_pos (by omega), h3]; rfl
      · rw [if_pos (by omega), h3]; rfl
    · rw [if_neg (by omega), if_neg (by omega), if_neg (by omega), if_neg e]
  · rw [if_neg hc, if_neg hc, if_neg (by omega), if_neg (by omega), if_neg (by omega)]
theorem putOp_ch (w : World) (g i : Nat) (x : Opn) : Ch (· = g) w (putOp w g i x) :=
  (((Ch.refl (· = g) w).setCell ⟨g, i * 3, none⟩ _ (fun _ => rfl)).setCell ⟨g, i * 3 + 1, none⟩ _ (fun _ => rfl)).setCell ⟨g, i * 3 + 2, none⟩ _ (fun _ => rfl)

/-! ### Shuffles -/
/-- D' is D, with what lies from a to b in another order. -/
def Shuf (a b : Nat) (D D' : Nat → Opn) : Prop := ∃ s t : Nat → Nat, (∀ k, t (s k) = k) ∧ (∀ k, s (t k) = k) ∧ (∀ k, ¬ (a ≤ k ∧ k < b) → s k = k) ∧ ∀ k, D' k = D (s k)
theorem Shuf.refl (a b : Nat) (D : Nat → Opn) : Shuf a b D D := ⟨id, id, fun _ => rfl, fun _ => rfl, fun _ _ => rfl, fun _ => rfl⟩
theorem Shuf.trans {a b : Nat} {D E F : Nat → Opn} (h : Shuf a b D E) (k : Shuf a b E F) : Shuf a b D F := by
  obtain ⟨s, t, h1, h2, h3, h4⟩ := h
  obtain ⟨s', t', k1, k2, k3, k4⟩ := k
  exact ⟨fun x => s (s' x), fun x => t' (t x), fun x => by simp [h1, k1], fun x => by simp [h2, k2], fun x hx => by simp only [k3 x hx, h3 x hx], fun x => by rw [k4, h4]⟩
theorem Shuf.mono {a b a' b' : Nat} {D E : Nat → Opn} (h : Shuf a b D E) (ha : a' ≤ a) (hb : b ≤ b') : Shuf a' b' D E := by
  obtain ⟨s, t, h1, h2, h3, h4⟩ := h
  exact ⟨s, t, h1, h2, fun x hx => h3 x (by omega), h4⟩
theorem Shuf.out {a b : Nat} {D E : Nat → Opn} (h : Shuf a b D E) (k : Nat) (hk : ¬ (a ≤ k ∧ k < b)) : E k = D k := by
  obtain ⟨s, t, h1, h2, h3, h4⟩ := h
  rw [h4, h3 k hk]
theorem Shuf.mem {a b : Nat} {D E : Nat → Opn} (h : Shuf a b D E) (k : Nat) (ha : a ≤ k) (hb : k < b) : ∃ j, a ≤ j ∧ j < b ∧ E k = D j := by
  obtain ⟨s, t, h1, h2, h3, h4⟩ := h
  by_cases hs : a ≤ s k ∧ s k < b
  · exact ⟨s k, hs.1, hs.2, h4 k⟩
  · have e := h3 (s k) hs
    have e2 : s k = k := by
      have := congrArg t e
      rwa [h1, h1] at this
    rw [e2] at hs
    exact absurd ⟨ha, hb⟩ hs
theorem Shuf.symm {a b : Nat} {D E : Nat → Opn} (h : Shuf a b D E) : Shuf a b E D := by
  obtain ⟨s, t, h1, h2, h3, h4⟩ := h
  refine ⟨t, s, h2, h1, fun k hk => ?_, fun k => by rw [h4, h2]⟩
  have := congrArg t (h3 k hk)
  rw [h1] at this
  exact this.symm
theorem Shuf.inj {a b : Nat} {D E : Nat → Opn} (h : Shuf a b D E) (hd : ∀ i j, a ≤ i → i < b → a ≤ j → j < b → (D i).key = (D j).key → i = j) : ∀ i j, a ≤ i → i < b → a ≤ j → j < b → (E i).key = (E j).key → i = j := by
  obtain ⟨s, t, h1, h2, h3, h4⟩ := id h
  intro i j hi1 hi2 hj1 hj2 he
  rw [h4, h4] at he
  have hs : ∀ k, a ≤ k → k < b → a ≤ s k ∧ s k < b := fun k ha hb => by
    by_cases hs : a ≤ s k ∧ s k < b
    · exact hs
    · have e := h3 (s k) hs
      have e2 : s k = k := by
        have := congrArg t e
        rwa [h1, h1] at this
      omega
  have := hd (s i) (s j) (hs i hi1 hi2).1 (hs i hi1 hi2).2 (hs j hj1 hj2).1 (hs j hj1 hj2).2 he
  have := congrArg t this
  rwa [h1, h1] at this
/-- Two changed places. -/
def swapD (D : Nat → Opn) (i j : Nat) : Nat → Opn := upd (upd D i (D j)) j (D i)
theorem swapD_get (D : Nat → Opn) (i j k : Nat) : swapD D i j k = if k = j then D i else if k = i then D j else D k := rfl
theorem Shuf.swap {a b i j : Nat} (D : Nat → Opn) (hi : a ≤ i ∧ i < b) (hj : a ≤ j ∧ j < b) : Shuf a b D (swapD D i j) := by
  refine ⟨fun k => if k = j then i else if k = i then j else k, fun k => if k = j then i else if k = i then j else k, fun k => ?_, fun k => ?_, fun k hk => ?_, fun k => ?_⟩
  · by_cases h1 : k = j <;> by_cases h2 : k = i <;> by_cases h3 : i = j <;> simp_all
  · by_cases h1 : k = j <;> by_cases h2 : k = i <;> by_cases h3 : i = j <;> simp_all
  · show (if k = j then i else if k = i then j else k) = k
    rw [if_neg (by omega), if_neg (by omega)]
  · show swapD D i j k = D (if k = j then i else if k = i then j else k)
    rw [swapD_get]
    by_cases h1 : k = j
    · rw [if_pos h1, if_pos h1]
    · rw [if_neg h1, if_neg h1]
      by_cases h2 : k = i
      · rw [if_pos h2, if_pos h2]
      · rw [if_neg h2, if_neg h2]
/-- In order, by key. -/
def SortedOn (D : Nat → Opn) (a b : Nat) : Prop := ∀ i j, a ≤ i → i < j → j < b → (D i).key ≤ (D j).key
end Go.Proofs.YtlhfpnkfapghoaaDoor
end

section
/- Regions that draw their order and hold calls that make memory, but change none that was there: one walk in the order of the text. No condition. -/
set_option linter.unusedVariables false
set_option linter.unusedSimpArgs false
namespace Go.Proofs.YtlhfpnkfapghoaaDoor
open Go.RowKit

/-- The worlds that a world may have come to, where nothing old has changed. -/
structure Ext (w0 : World) where
  val : World
  ch : Ch nob w0 val
instance (w0 : World) : Nonempty (Ext w0) := ⟨⟨w0, Ch.refl _ _⟩⟩
theorem Ext.cell {w0 : World} {a : Addr} {v : Value} (h : w0.cell? a = some v) (u : Ext w0) : u.val.cell? a = some v :=
  (World.cell?_of_block (u.ch.block _ (World.block_lt_of_cell? w0 _ h) (fun h => h))).trans h
theorem Ext.blk {w0 : World} {g : Nat} {cs : Array Value} {T : TypeId} (h : Blk w0 g cs T) (u : Ext w0) : Blk u.val g cs T := h.ch u.ch (fun h => h)
theorem ext_of {P : Program} {f : FuncId} {args : Array Value} {w0 : World} {u : Ext w0} {v : Value}
    (h : Calls P f args u.val fun e w' => e = .returned v ∧ Ch nob u.val w') : Calls P f args u.val fun e w'' => e = .returned v ∧ ∃ m : Ext w0, w'' = m.val :=
  h.mono fun _ _ ⟨he, hc⟩ => ⟨he, ⟨_, u.ch.seq hc⟩, rfl⟩
theorem wp_region_ch {P : Program} {id : Nat} {Q : Exit → Act → World → Prop} {a : Act} {w w0 : World} {l : List Oper} (hm : P.follows .mixedOrders = true) (hB : Region.lexB .any l.toArray = true) (hc : Ch nob w0 w)
    (h : wpQuiet P l.toArray (fun w' => ∃ u : Ext w0, w' = u.val) (fun a' => ∀ w', (∃ u : Ext w0, w' = u.val) → Q .normal a' w') l a) : (Code.region id l.toArray true).wp P Q a w :=
  wp_region_quiet (C := fun w' => ∃ u : Ext w0, w' = u.val) hm hB ⟨⟨_, hc.drew⟩, rfl⟩ (by simpa using h)
theorem quiet_load_row {P : Program} {C : World → Prop} {o : Oper} {a : Act} {K : Act → Prop} (ty : TypeId) (x : Operand) (ho : o.op = .load ty x)
    (g : Nat) (hx : a.eval x = .pointer (some ⟨g, 0, none⟩)) (t : TypeId) (cs : Array Value) (hg : ∀ w, C w → Blk w g cs t) (d : TypeDesc)
    (hu : P.underlying ty = some d) (hd : (match d with | .struct _ | .array _ _ => true | _ => false) = true) (hi : (P.info? ty).map (·.size) = some cs.size)
    (h : K (a.put o.dst (.agg cs))) : o.quiet P a C K :=
  ⟨_, fun w hw => by
    unfold Oper.quietAt execOp
    simp only [ho, hx, Instr.loadAt, Instr.sureAddr, Sem.run_bind, Sem.run_pure, Result.andThen_ok, run_loadVar_row w g t ty cs (0, 0) d (hg w hw) hu hd hi]
    exact ⟨rfl, rfl⟩, h⟩
theorem Ch.of_drew {S : Nat → Prop} {w w' : World} (h : Ch S w.drew w') : Ch S w w' := ⟨h.os, h.tape, h.output, h.size, h.block⟩
theorem Ch.of_drewN {S : Nat → Prop} {w w' : World} {n : Nat} (h : Ch S (w.drewN n) w') : Ch S w w' := ⟨h.os, h.tape, h.output, h.size, h.block⟩
/-- The results of a function: an array's variable, and two slots. -/
theorem results_cell_row3 {P : Program} {fn : Func} {p u q : Tmp} {ty : TypeId} (h : fn.results = #[.cell p ty, .tmp u, .tmp q]) (tmps : Array Value) (w : World) (g : Nat) (t : TypeId) (cs : Array Value) (fr : Nat × Nat) (d : TypeDesc)
    (hp : tmps.getD p undef = .pointer (some ⟨g, 0, none⟩)) (hg : w.heap[g]? = some (.cells cs t fr))
    (hu : P.underlying ty = some d) (hd : (match d with | .struct _ | .array _ _ => true | _ => false) = true) (hi : (P.info? ty).map (·.size) = some cs.size) :
    (results fn tmps).run P w = .ok (.tuple #[.agg cs, tmps.getD u undef, tmps.getD q undef]) w := by
  have hp' : tmps[p]?.getD undef = .pointer (some ⟨g, 0, none⟩) := by simpa using hp
  simp [results, h, hp', asAddr, run_loadVar_row w g t ty cs fr d hg hu hd hi]
theorem rangeAt_keep {w w' : World} {b o : Nat} {cs : List Value} (h : w.rangeAt b o cs) (hc : Ch nob w w') : w'.rangeAt b o cs := fun j v hv => by
  have h1 := h j v hv
  exact (World.cell?_of_block (hc.block _ (World.block_lt_of_cell? w _ h1) (fun h => h))).trans h1
theorem rangeAt_blk {w : World} {g : Nat} {cs : Array Value} {T : TypeId} (h : Blk w g cs T) : w.rangeAt g 0 cs.toList := fun j v hv => by
  have h' : w.heap[g]? = some (.cells cs T (0, 0)) := h
  rw [Array.getElem?_toList] at hv
  simp [World.cell?, h', hv]
/-- A new row that is stored whole. -/
theorem new_row (w : World) (Z C : Array Value) (T : TypeId) : Blk ((w.alloc (.cells Z T)).setRow w.heap.size C) w.heap.size C T ∧ Ch nob w ((w.alloc (.cells Z T)).setRow w.heap.size C) :=
  ⟨(Blk.new w Z T).row C, ((Ch.refl nob w).alloc (.cells Z T)).setRow _ _ (fun h => by omega)⟩
end Go.Proofs.YtlhfpnkfapghoaaDoor
end

section
/- Slices that are read as lists, and rows of a call's own that are appended to. No condition. -/
set_option linter.unusedVariables false
set_option linter.unusedSimpArgs false
namespace Go.Proofs.YtlhfpnkfapghoaaDoor
open Go.RowKit

/-- A slice value reads as this list of ints (of one kind); nil and empty ones alike. -/
def IntsK (k : IntKind) (w : World) (v : Value) (xs : List Int) : Prop :=
  ∃ A c, v = .slice A xs.length c ∧ (xs.length ≤ c ∧ xs.length ≤ 9223372036854775807) ∧ (0 < xs.length → ∃ ad, A = some ad ∧ ∀ j, j < xs.length → w.cell? (ad.add j) = some (.int k (xs.getD j 0)))
abbrev Ints := IntsK .i64
theorem add_block (a : Addr) (j : Nat) : (a.add j).block = a.block := by unfold Addr.add; split <;> rfl
theorem IntsK.ch {k : IntKind} {S : Nat → Prop} {w w' : World} {v : Value} {xs : List Int} (h : IntsK k w v xs) (hc : Ch S w w') (hn : ∀ b, v.ownBlock = some b → ¬ S b) : IntsK k w' v xs := by
  obtain ⟨A, c, rfl, hl, hx⟩ := h
  refine ⟨A, c, rfl, hl, fun h0 => ?_⟩
  obtain ⟨ad, rfl, hcell⟩ := hx h0
  refine ⟨ad, rfl, fun j hj => ?_⟩
  have h1 := hcell j hj
  have hb := World.block_lt_of_cell? w _ h1
  rw [add_block] at hb
  exact (World.cell?_of_block (by rw [add_block]; exact hc.block _ hb (hn _ rfl))).trans h1
theorem IntsK.keep {k : IntKind} {w w' : World} {v : Value} {xs : List Int} (h : IntsK k w v xs) (hc : Ch nob w w') : IntsK k w' v xs := h.ch hc (fun _ _ h => h)
theorem IntsK.nil (k : IntKind) (w : World) (A : Option Addr) (c : Nat) : IntsK k w (.slice A 0 c) [] := ⟨A, c, rfl, by simp, fun h => absurd h (by simp)⟩
theorem IntsK.len {k : IntKind} {w : World} {v : Value} {xs : List Int} (h : IntsK k w v xs) : xs.length ≤ 9223372036854775807 := by
  obtain ⟨_, _, _, h, _⟩ := h; exact h.2
theorem IntsK.cap {k : IntKind} {w : World} {A : Option Addr} {n c : Nat} {xs : List Int} (h : IntsK k w (.slice A n c) xs) : xs.length ≤ c := by
  obtain ⟨_, _, hv, h, _⟩ := h
  simp only [Value.slice.injEq] at hv
  obtain ⟨_, _, rfl⟩ := hv
  exact h.1

/-- Rows of a call's own: what is known of the new block of one element that an append makes. -/
structure ElemOK (P : Program) (t e : TypeId) (z : Value) (size bytes : Nat) : Prop where
  under : P.underlying t = some (.slice e)
  info : (P.info? e).map (fun i => (i.zero, i.size, i.bytes)) = some (some z, size, bytes)

theorem ElemOK.get {P : Program} {t e : TypeId} {z : Value} {size bytes : Nat} (h : ElemOK P t e z size bytes) : ∃ i, P.info? e = some i ∧ i.zero = some z ∧ i.size = size ∧ i.bytes = bytes := by
  have h1 := h.info
  cases hi : P.info? e with
  | none => simp [hi] at h1
  | some i =>
    simp only [hi, Option.map_some, Option.some.injEq, Prod.mk.injEq] at h1
    exact ⟨i, rfl, h1.1, h1.2.1, h1.2.2⟩

/-- 'append(s, x)': one element behind a row of the call's own. -/
theorem wpList_append1 {P : Program} {w : World} {ops : Array Oper} {rest : List Oper} {o : Oper} {a : Act} {Q : Exit → Act → World → Prop} (hgd : o.guard = none) (s x : Operand) (t e : TypeId)
    (ho : o.op = .call { callee := .builtin .append, args := #[s, x], argTypes := #[t, t] }) (z : Value) (size bytes : Nat) (he : ElemOK P t e z size bytes) (hz : z.cells.size = size) (hsz : 0 < size) (hby : bytes ≤ 1000)
    (base : Nat) (v : Value) (n : Nat) (xs : List Value) (hs : a.eval s = v) (hown : w.ownsRow base e size v n xs)
    (g : Nat) (news : Array Value) (T : TypeId) (hx : a.eval x = .slice (some ⟨g, 0, none⟩) 1 1) (hb : Blk w g news T) (hl : news.size = size) (h1 : ∀ u ∈ news.toList, u.oneCell' = true) (hn : n ≤ 100000000000) (hbase : base ≤ w.heap.size)
    (h : ∀ v' w', w'.ownsRow base e size v' (n + 1) (xs ++ news.toList) → w.grownBy w' v.ownBlock → wpList P ops Q rest (a.put o.dst v') w') : wpList P ops Q (o :: rest) a w := by
  obtain ⟨i, hi, hz0, hz1, hz2⟩ := he.get
  refine wpList_append_own w hgd s x t ho base e i z size bytes he.under hi hz0 hz1 hz2 hz hsz v n xs hs hown ⟨g, 0, none⟩ 1 1 news.toList hx (by simp [hl]) ?_ ?_ (by unfold maxLen; omega) ?_ hbase (fun v' w' h1 h2 _ => h v' w' h1 h2)
  · intro j u hu
    rw [show (⟨g, 0, none⟩ : Addr).add j = ⟨g, j, none⟩ from by unfold Addr.add; split <;> simp_all]
    exact hb.cell (by simpa using hu)
  · exact h1
  · exact Nat.le_trans (Nat.mul_le_mul (show n + 1 ≤ 100000000001 by omega) hby) (by decide)

/-- A row of the call's own as a list of ints. -/
def OwnK (k : IntKind) (w : World) (base e : Nat) (v : Value) (xs : List Int) : Prop := w.ownsRow base e 1 v xs.length (xs.map (.int k))
abbrev Own := OwnK .i64
theorem OwnK.ints {k : IntKind} {w : World} {base e : Nat} {v : Value} {xs : List Int} (h : OwnK k w base e v xs) : IntsK k w v xs := by
  have hl := h.1
  have h0 := h.2
  rcases h0 with ⟨hv, hn⟩ | ⟨g, cap, cur, hv, hb, hg, hle, hcap, hsz, htake⟩
  · have : xs = [] := List.eq_nil_of_length_eq_zero hn
    subst this
    exact ⟨none, 0, hv, by simp, fun h => absurd h (by simp)⟩
  · refine ⟨_, _, hv, ⟨hle, Nat.le_trans hle hcap⟩, fun h0 => ⟨_, rfl, fun j hj => ?_⟩⟩
    refine World.ownsRow.cells h (g := g) (by rw [hv]; rfl) j _ ?_
    simp [List.getElem?_eq_getElem hj, List.getD_eq_getElem?_getD]
theorem OwnK.nil (k : IntKind) (w : World) (base e : Nat) : OwnK k w base e (.slice none 0 0) [] := World.ownsRow_nil w base e 1
theorem OwnK.grown {k : IntKind} {w w' : World} {base e : Nat} {v : Value} {xs : List Int} (h : OwnK k w base e v xs) {row : Option Nat} (hg : w.grownBy w' row) (hne : ∀ b, v.ownBlock = some b → row ≠ some b) : OwnK k w' base e v xs :=
  World.ownsRow.kept h hg (by
    cases hv : v.ownBlock with
    | none => exact .inl rfl
    | some b => exact .inr fun he => hne b hv he.symm)
theorem grown_of_ch {w w' : World} (h : Ch nob w w') (row : Option Nat) : w.grownBy w' row := ⟨h.os, h.tape, h.output, h.size, fun k hk _ => h.block k hk (fun h => h)⟩
theorem grown_of_ch1 {w w' : World} {g : Nat} (h : Ch (· = g) w w') : w.grownBy w' (some g) := ⟨h.os, h.tape, h.output, h.size, fun k hk hn => h.block k hk (fun e => hn (by rw [show k = g from e]))⟩
theorem OwnK.keep {k : IntKind} {w w' : World} {base e : Nat} {v : Value} {xs : List Int} (h : OwnK k w base e v xs) (hc : Ch nob w w') : OwnK k w' base e v xs := h.grown (grown_of_ch hc none) (fun _ _ h => by cases h)
theorem OwnK.other {k : IntKind} {w w' : World} {g : Nat} {base e : Nat} {v : Value} {xs : List Int} (h : OwnK k w base e v xs) (hc : Ch (· = g) w w') (hn : v.ownBlock ≠ some g) : OwnK k w' base e v xs := h.grown (grown_of_ch1 hc) (fun b hb he => hn (by rw [hb, he]))
theorem OwnK.ge {k : IntKind} {w : World} {base e : Nat} {v : Value} {xs : List Int} (h : OwnK k w base e v xs) (b : Nat) (hb : v.ownBlock = some b) : base ≤ b ∧ b < w.heap.size := World.ownsRow.lt h b hb
/-- Whoever owns a row is not a block of another type. -/
theorem OwnK.ne {k : IntKind} {w : World} {base e : Nat} {v : Value} {xs : List Int} (h : OwnK k w base e v xs) {g : Nat} {cs : Array Value} {T : TypeId} (hb : Blk w g cs T) (ht : e ≠ T) : v.ownBlock ≠ some g := by
  intro hv
  rcases h.2 with ⟨h1, _⟩ | ⟨g', cap, cur, h1, _, hg, _⟩
  · rw [h1] at hv; cases hv
  · rw [h1] at hv
    have : g' = g := by simpa [Value.ownBlock] using hv
    subst this
    have h2 : w.heap[g']? = some (.cells cs T (0, 0)) := hb
    rw [hg] at h2
    simp at h2
    exact ht h2.2
/-- The append: what it leaves. -/
theorem own_snoc {k : IntKind} {w : World} {base e : Nat} {v : Value} {xs : List Int} {z : Int} {n : Nat} (h : w.ownsRow base e 1 v (n + 1) (xs.map (.int k) ++ (#[Value.int k z] : Array Value).toList)) (hn : n = xs.length) : OwnK k w base e v (xs ++ [z]) := by
  subst hn
  unfold OwnK
  simpa using h
/-- 'append(s, x)' to a row of ints of the call's own. -/
theorem wpList_append_int {P : Program} {w : World} {ops : Array Oper} {rest : List Oper} {o : Oper} {a : Act} {Q : Exit → Act → World → Prop} (hgd : o.guard = none) (s x : Operand) (t e : TypeId)
    (ho : o.op = .call { callee := .builtin .append, args := #[s, x], argTypes := #[t, t] }) (k : IntKind) (bytes : Nat) (he : ElemOK P t e (.int k 0) 1 bytes) (hby : bytes ≤ 1000)
    (base : Nat) (v : Value) (xs : List Int) (hs : a.eval s = v) (hown : OwnK k w base e v xs)
    (g : Nat) (z : Int) (T : TypeId) (hx : a.eval x = .slice (some ⟨g, 0, none⟩) 1 1) (hb : Blk w g #[.int k z] T) (hn : xs.length ≤ 100000000000) (hbase : base ≤ w.heap.size)
    (h : ∀ v' w', OwnK k w' base e v' (xs ++ [z]) → w.grownBy w' v.ownBlock → wpList P ops Q rest (a.put o.dst v') w') : wpList P ops Q (o :: rest) a w :=
  wpList_append1 hgd s x t e ho (.int k 0) 1 bytes he rfl (by decide) hby base v xs.length _ hs hown g #[.int k z] T hx hb rfl (by intro u hu; simp at hu; subst hu; rfl) hn hbase
    fun v' w' h1 h2 => h v' w' (own_snoc h1 rfl) h2
/-- 'make([]T, 0, n)': a row of ints of the call's own. -/
theorem wpList_make_int {P : Program} {w : World} {ops : Array Oper} {rest : List Oper} {o : Oper} {a : Act} {Q : Exit → Act → World → Prop} (hgd : o.guard = none) (l c : Operand) (t e : TypeId) (ho : o.op = Op.makeSlice t l c)
    (k : IntKind) (bytes : Nat) (he : ElemOK P t e (.int k 0) 1 bytes) (hby : bytes ≤ 1000) (base n : Nat) (kl kc : IntKind) (C : Int) (hl : a.eval l = .int kl 0) (hc : a.eval c = .int kc C) (hC : C = (n : Int)) (hn : n ≤ 100000000) (hbase : base ≤ w.heap.size)
    (h : ∀ w', OwnK k w' base e (.slice (some ⟨w.heap.size, 0, none⟩) 0 n) [] → Ch nob w w' → wpList P ops Q rest (a.put o.dst (.slice (some ⟨w.heap.size, 0, none⟩) 0 n)) w') : wpList P ops Q (o :: rest) a w := by
  obtain ⟨i, hi, hz0, hz1, hz2⟩ := he.get
  refine wpList_make_own w hgd l c t ho base e i (.int k 0) 1 he.under hi hz0 hz1 kl kc C n hl hc hC ?_ (by unfold maxLen; omega) hbase (fun w' h1 h2 => h w' h1 ⟨h2.os, h2.tape, h2.output, h2.size, fun k hk _ => h2.block k hk (by simp)⟩)
  rw [hz2]
  exact Nat.le_trans (Nat.mul_le_mul hby hn) (by decide)
theorem Ch.grown_own {S : Nat → Prop} {a w w' : World} {v : Value} (h : Ch S a w) (hg : w.grownBy w' v.ownBlock) (hr : ∀ b, v.ownBlock = some b → a.heap.size ≤ b) : Ch S a w' :=
  h.grown hg (fun k hk e => by have := hr k e; omega)
theorem Blk.grown {w w' : World} {g : Nat} {cs : Array Value} {T : TypeId} {row : Option Nat} (h : Blk w g cs T) (hg : w.grownBy w' row) (hn : row ≠ some g) : Blk w' g cs T :=
  (hg.block g h.lt (fun e => hn e.symm)).trans h
theorem IntsK.grown {k : IntKind} {w w' : World} {v : Value} {xs : List Int} {row : Option Nat} (h : IntsK k w v xs) (hg : w.grownBy w' row) (hn : ∀ b, v.ownBlock = some b → row ≠ some b) : IntsK k w' v xs :=
  h.ch (S := fun b => row = some b) ⟨hg.os, hg.tape, hg.output, hg.size, fun k hk hne => hg.block k hk (fun e => hne e.symm)⟩ hn
theorem Ch.toGrown {w w' : World} {row : Option Nat} (hg : w.grownBy w' row) : Ch (fun b => row = some b) w w' := ⟨hg.os, hg.tape, hg.output, hg.size, fun k hk hne => hg.block k hk (fun e => hne e.symm)⟩
/-- One element of a slice that is read: its address and cell. -/
theorem IntsK.at {k : IntKind} {w : World} {A : Option Addr} {c n : Nat} {xs : List Int} (h : IntsK k w (.slice A n c) xs) : n = xs.length ∧ xs.length ≤ 9223372036854775807 ∧ ∀ j, j < xs.length → ∃ ad, A = some ad ∧ w.cell? (ad.add j) = some (.int k (xs.getD j 0)) := by
  obtain ⟨A', c', hv, hl, hx⟩ := h
  simp only [Value.slice.injEq] at hv
  obtain ⟨rfl, rfl, rfl⟩ := hv
  refine ⟨rfl, hl.2, fun j hj => ?_⟩
  obtain ⟨ad, h1, h2⟩ := hx (by omega)
  exact ⟨ad, h1, h2 j hj⟩
theorem IntsK.shape {k : IntKind} {w : World} {v : Value} {xs : List Int} (h : IntsK k w v xs) : ∃ A c, v = .slice A xs.length c := by
  obtain ⟨A, c, rfl, _, _⟩ := h; exact ⟨A, c, rfl⟩
/-- A slice of ints that came in reads as its list. -/
theorem ints_of_open {k : IntKind} {w : World} {x : Addr} {l c : Nat} {zs : List Int} (hl : l ≤ c) (hm : c ≤ maxLen) (hz : zs.length = c) (hcell : ∀ i, i < zs.length → w.cell? (x.add i) = some (.int k (zs.getD i 0))) : IntsK k w (.slice (some x) l c) (zs.take l) := by
  have hle : (zs.take l).length = l := by rw [List.length_take]; omega
  refine ⟨some x, c, by rw [hle], ⟨by omega, by unfold maxLen at hm; omega⟩, fun h0 => ⟨x, rfl, fun j hj => ?_⟩⟩
  rw [hle] at hj
  rw [hcell j (by omega), List.getD_eq_getElem?_getD, List.getD_eq_getElem?_getD, List.getElem?_take, if_pos hj]
/-- A literal's row. -/
theorem OwnK.of_blk {k : IntKind} {w : World} {base g e : Nat} {xs : List Int} (h : Blk w g (xs.map (Value.int k)).toArray e) (hb : base ≤ g) (hl : xs.length ≤ 1000000) : OwnK k w base e (.slice (some ⟨g, 0, none⟩) xs.length xs.length) xs :=
  ⟨by simp, .inr ⟨g, xs.length, _, rfl, hb, h, Nat.le_refl _, by unfold maxLen; omega, by simp, by simp [List.take_of_length_le]⟩⟩
/-- 'append(s, l...)': a list behind a row of the call's own. -/
theorem wpList_append_ints {P : Program} {w : World} {ops : Array Oper} {rest : List Oper} {o : Oper} {a : Act} {Q : Exit → Act → World → Prop} (hgd : o.guard = none) (s x : Operand) (t e : TypeId)
    (ho : o.op = .call { callee := .builtin .append, args := #[s, x], argTypes := #[t, t] }) (k : IntKind) (bytes : Nat) (he : ElemOK P t e (.int k 0) 1 bytes) (hby : bytes ≤ 1000)
    (base : Nat) (v : Value) (xs : List Int) (hs : a.eval s = v) (hown : OwnK k w base e v xs)
    (base' e' : Nat) (u : Value) (ys : List Int) (hx : a.eval x = u) (hsrc : OwnK k w base' e' u ys) (hn : xs.length ≤ 10000000000) (hm : ys.length ≤ 10000000000) (hbase : base ≤ w.heap.size)
    (h : ∀ v' w', OwnK k w' base e v' (xs ++ ys) → w.grownBy w' v.ownBlock → wpList P ops Q rest (a.put o.dst v') w') : wpList P ops Q (o :: rest) a w := by
  obtain ⟨i, hi, hz0, hz1, hz2⟩ := he.get
  rcases hsrc.2 with ⟨hu, h0⟩ | ⟨g, cap, cur, hu, _, hg, hle, _, _, htake⟩
  · have : ys = [] := List.eq_nil_of_length_eq_zero h0
    subst this
    refine wpList_append_own_none hgd s x t ho base e i 1 he.under hi v xs.length _ hs hown (hx.trans hu) ?_
    have := h v w (by simpa using hown) ⟨rfl, rfl, rfl, Nat.le_refl _, fun _ _ _ => rfl⟩
    exact this
  · refine wpList_append_own w hgd s x t ho base e i (.int k 0) 1 bytes he.under hi hz0 hz1 hz2 rfl (by decide) v xs.length _ hs hown ⟨g, 0, none⟩ ys.length cap (ys.map (.int k)) (hx.trans hu) (by simp) ?_ ?_ (by unfold maxLen; omega) ?_ hbase (fun v' w' h1 h2 _ => h v' w' ?_ h2)
    · exact World.ownsRow.cells hsrc (g := g) (by rw [hu]; rfl)
    · intro z hz
      obtain ⟨y, _, rfl⟩ := List.mem_map.1 hz
      rfl
    · exact Nat.le_trans (Nat.mul_le_mul (show xs.length + ys.length ≤ 20000000000 by omega) hby) (by decide)
    · unfold OwnK
      rw [List.length_append, List.map_append]
      exact h1
theorem elem_int : ElemOK Tryd.prog 35 3 (.int .i64 0) 1 8 := ⟨by kernel_rfl, by kernel_rfl⟩
theorem OwnK.alloc {k : IntKind} {w : World} {base e : Nat} {v : Value} {xs : List Int} (h : OwnK k w base e v xs) (o : Obj) : OwnK k (w.alloc o) base e v xs := World.ownsRow.alloc h o
theorem OwnK.made (k : IntKind) (w : World) (base e : Nat) (hb : base ≤ w.heap.size) : OwnK k (w.alloc (.cells #[] e)) base e (.slice (some ⟨w.heap.size, 0, none⟩) 0 0) [] :=
  World.ownsRow_made w #[] 0 hb (by unfold maxLen; omega) (by simp)
theorem OwnK.drewN {k : IntKind} {w : World} {base e : Nat} {v : Value} {xs : List Int} (h : OwnK k w base e v xs) (n : Nat) : OwnK k (w.drewN n) base e v xs := h
/-- What a call hands back that makes a list of its own. -/
def RetOwn (k : IntKind) (w : World) (T : Nat) (xs : List Int) (e : Ending) (w' : World) : Prop := ∃ v, e = .returned v ∧ OwnK k w' w.heap.size T v xs ∧ Ch nob w w'
theorem filter_take_succ (l : List Int) (p : Int → Bool) (k : Nat) (h : k < l.length) : (l.take (k + 1)).filter p = (l.take k).filter p ++ if p (l.getD k 0) then [l.getD k 0] else [] := by
  rw [List.take_add_one, List.filter_append, List.getElem?_eq_getElem h, List.getD_eq_getElem?_getD, List.getElem?_eq_getElem h]
  simp only [Option.toList_some, Option.getD_some]
  cases hp : p l[k] <;> simp [hp]
end Go.Proofs.YtlhfpnkfapghoaaDoor
end

section
/- The library's comparison of ints, and of operations by their keys; stretches exchanged. No condition but each theorem's own. -/
set_option linter.unusedVariables false
set_option linter.unusedSimpArgs false
namespace Go.Proofs.YtlhfpnkfapghoaaDoor
open Go.RowKit

theorem nan_int (a : Int) (w : World) : Calls Tryd.prog 144 #[.int .i64 a] w fun e w' => e = .returned (.bool false) ∧ w = w' := by
  go_enter Tryd.func144, Tryd.ntmps144
  go_wp2_with fail
  go_ret
  exact ⟨ret_bool (by simp), rfl⟩
def cmpI (a b : Int) : Int := if a < b then -1 else if b < a then 1 else 0
theorem compare_int (a b : Int) (w : World) : Calls Tryd.prog 138 #[.int .i64 a, .int .i64 b] w fun e w' => e = .returned (.int .i64 (cmpI a b)) ∧ w = w' := by
  by_cases h1 : a < b
  · have h := Lib.hid (show cmpI a b = -1 from by unfold cmpI; rw [if_pos h1])
    go_enter Tryd.func138, Tryd.ntmps138
    go_wp2_with (go_at_call 144; refine (nan_int _ _).mono ?_; rintro e w' ⟨rfl, rfl⟩)
    go_ret
    exact ⟨ret_int (by rw [h.out]), rfl⟩
  · by_cases h2 : b < a
    · have h := Lib.hid (show cmpI a b = 1 from by unfold cmpI; rw [if_neg h1, if_pos h2])
      go_enter Tryd.func138, Tryd.ntmps138
      go_wp2_with (go_at_call 144; refine (nan_int _ _).mono ?_; rintro e w' ⟨rfl, rfl⟩)
      go_ret
      exact ⟨ret_int (by rw [h.out]), rfl⟩
    · have h := Lib.hid (show cmpI a b = 0 from by unfold cmpI; rw [if_neg h1, if_neg h2])
      go_enter Tryd.func138, Tryd.ntmps138
      go_wp2_with (go_at_call 144; refine (nan_int _ _).mono ?_; rintro e w' ⟨rfl, rfl⟩)
      go_ret
      exact ⟨ret_int (by rw [h.out]), rfl⟩
theorem by_key (x y : Opn) (w : World) : Calls Tryd.prog 137 #[.agg #[.bool x.wr, .int .i64 x.key, .int .i64 x.val], .agg #[.bool y.wr, .int .i64 y.key, .int .i64 y.val]] w fun e w' => e = .returned (.int .i64 (cmpI x.key y.key)) ∧ Ch nob w w' := by
  obtain ⟨h1, h2, hc, _⟩ := two_new w #[.bool x.wr, .int .i64 x.key, .int .i64 x.val] #[.bool y.wr, .int .i64 y.key, .int .i64 y.val] 121 121
  have hx := h1.cell (i := 1) (v := .int .i64 x.key) rfl
  have hy := h2.cell (i := 1) (v := .int .i64 y.key) rfl
  go_enter Tryd.func137, Tryd.ntmps137
  go_wp2_with fail
  generalize (w.alloc _).alloc _ = w1 at hx hy hc ⊢
  refine (compare_int _ _ _).mono ?_
  rintro e w2 ⟨rfl, rfl⟩
  go_wp2_with fail
  go_ret
  exact ⟨rfl, hc⟩
/-- Two stretches of one length exchanged. -/
def swapR (D : Nat → Opn) (a b n : Nat) : Nat → Opn := fun k => if a ≤ k ∧ k < a + n then D (k - a + b) else if b ≤ k ∧ k < b + n then D (k - b + a) else D k
theorem swapR_zero (D : Nat → Opn) (a b : Nat) : swapR D a b 0 = D := by
  funext k
  unfold swapR
  rw [if_neg (by omega), if_neg (by omega)]
theorem swapR_succ (D : Nat → Opn) (a b i : Nat) (h : a + i < b) : swapD (swapR D a b i) (a + i) (b + i) = swapR D a b (i + 1) := by
  funext k
  rw [swapD_get]
  by_cases h1 : k = b + i
  · subst h1
    rw [if_pos rfl]
    unfold swapR
    rw [if_neg (by omega), if_neg (by omega), if_neg (by omega), if_pos (by omega)]
    congr 1; omega
  · rw [if_neg h1]
    by_cases h2 : k = a + i
    · subst h2
      rw [if_pos rfl]
      unfold swapR
      rw [if_neg (by omega), if_neg (by omega), if_pos (by omega)]
      congr 1; omega
    · rw [if_neg h2]
      unfold swapR
      have e1 : (a ≤ k ∧ k < a + (i + 1)) ↔ (a ≤ k ∧ k < a + i) := by omega
      have e2 : (b ≤ k ∧ k < b + (i + 1)) ↔ (b ≤ k ∧ k < b + i) := by omega
      simp only [e1, e2]
set_option maxHeartbeats 1000000 in
theorem swap_range (g N : Nat) (D : Nat → Opn) (R : Nat → Value) (n cap a b m : Nat) (cmp : Value) (w : World) (hd : OpBlk w g N D R n 121) (hab : a + m ≤ b) (hbn : b + m ≤ n) (hn : n ≤ 1000000) :
    Calls Tryd.prog 148 #[.slice (some ⟨g, 0, none⟩) n cap, .int .i64 a, .int .i64 b, .int .i64 m, cmp] w fun e w' => e = .returned (.tuple #[]) ∧ OpBlk w' g N (swapR D a b m) R n 121 ∧ Ch (· = g) w w' := by
  have HD := Lib.hid (show OpBlk w g N (swapR D a b 0) R n 121 from by rw [swapR_zero]; exact hd)
  go_enter Tryd.func148, Tryd.ntmps148
  go_wp2_with fail
  go_loopw [10] (fun q wr => ∃ i : Nat, q = .int .i64 i ∧ i ≤ m ∧ Hid (OpBlk wr g N (swapR D a b i) R n 121) ∧ Ch (· = g) w wr) (fun q _ => m - (intOf q).toNat)
  case atStart => exact ⟨0, rfl, by omega, HD, Ch.refl _ _⟩
  case round =>
    clear HD hd
    obtain ⟨i, rfl, hi, hb, hc⟩ := hrel
    by_cases hlt : i < m
    · have hd1 : decide ((i : Int) < (m : Int)) = true := decide_eq_true (by omega)
      have HS := Lib.hid (swapR_succ D a b i (by omega))
      obtain ⟨E, hE⟩ : ∃ E, swapR D a b i = E := ⟨_, rfl⟩
      rw [hE] at hb HS
      clear hE
      obtain ⟨x0, x1, x2⟩ := hb.out.at (a + i) (by omega)
      obtain ⟨y0, y1, y2⟩ := hb.out.at (b + i) (by omega)
      have f0 := hb.out.free ((a + i) * 3)
      have f1 := hb.out.free ((a + i) * 3 + 1)
      have f2 := hb.out.free ((a + i) * 3 + 2)
      have k0 := hb.out.free ((b + i) * 3)
      have k1 := hb.out.free ((b + i) * 3 + 1)
      have k2 := hb.out.free ((b + i) * 3 + 2)
      have hi1 : (a : Int) + (i : Int) < (n : Int) := by omega
      have hi2 : (b : Int) + (i : Int) < (n : Int) := by omega
      have hi3 : (0 : Int) ≤ (a : Int) + (i : Int) := by omega
      have hi4 : (0 : Int) ≤ (b : Int) + (i : Int) := by omega
      have hw1 : IntKind.i64.wrap ((a : Int) + (i : Int)) = (a : Int) + (i : Int) := IntWalk.i64_in _ (by omega)
      have hw2 : IntKind.i64.wrap ((b : Int) + (i : Int)) = (b : Int) + (i : Int) := IntWalk.i64_in _ (by omega)
      have ht1 : ((a : Int) + (i : Int)).toNat = a + i := by omega
      have ht2 : ((b : Int) + (i : Int)).toNat = b + i := by omega
      have hb2 := Lib.hid ((hb.out.put (a + i) (by omega) (E (b + i))).put (b + i) (by omega) (E (a + i)))
      have hE2 : upd (upd E (a + i) (E (b + i))) (b + i) (E (a + i)) = swapR D a b (i + 1) := HS.out
      have hb3 : Hid (OpBlk (putOp (putOp wr g (a + i) (E (b + i))) g (b + i) (E (a + i))) g N (swapR D a b (i + 1)) R n 121) := Lib.hid (by rw [← hE2]; exact hb2.out)
      have hc3 : Ch (· = g) w (putOp (putOp wr g (a + i) (E (b + i))) g (b + i) (E (a + i))) := (hc.seqS (putOp_ch _ _ _ _)).seqS (putOp_ch _ _ _ _)
      have hb4 := Lib.hid hb3.out.drew
      have hc4 := hc3.drew
      simp only [putOp] at hb4 hc4
      clear hb hb2 hE2 hc HS hb3 hc3
      go_wp2_with fail
      go_region_with fail
      all_goals
        clear x0 x1 x2 y0 y1 y2 f0 f1 f2 k0 k1 k2 hw1 hw2 ht1 ht2
        go_wp2_with fail
        go_roundw
        case rel => exact ⟨i + 1, by go_num, by omega, hb4, hc4⟩
        case measure => simp [intOf]; omega
    · obtain rfl : i = m := by omega
      have hd1 : decide ((i : Int) < (i : Int)) = false := by simp
      go_wp2_with fail
      go_end0
      exact ⟨rfl, hb.out, hc⟩
end Go.Proofs.YtlhfpnkfapghoaaDoor
end

section
/- The library's rotation of a stretch of operations. No condition but each theorem's own. -/
set_option linter.unusedVariables false
set_option linter.unusedSimpArgs false
namespace Go.Proofs.YtlhfpnkfapghoaaDoor
open Go.RowKit

/-- Two neighbouring stretches, from a to m and from m to b, the other way round. -/
def rotR (D : Nat → Opn) (a m b : Nat) : Nat → Opn := fun k => if a ≤ k ∧ k < b then (if k < a + (b - m) then D (k + (m - a)) else D (k - (b - m))) else D k
theorem rot_left (D : Nat → Opn) (m i j : Nat) (hj : 1 ≤ j) (hij : j < i) (hm : i ≤ m) : rotR (swapR D (m - i) m j) (m - i + j) m (m + j) = rotR D (m - i) m (m + j) := by
  funext k
  unfold rotR swapR
  (repeat' split) <;> first | omega | rfl | (congr 1; omega)
theorem rot_right (D : Nat → Opn) (m i j : Nat) (hi : 1 ≤ i) (hij : i < j) (hm : i ≤ m) : rotR (swapR D (m - i) (m + j - i) i) (m - i) m (m + j - i) = rotR D (m - i) m (m + j) := by
  funext k
  unfold rotR swapR
  (repeat' split) <;> first | omega | rfl | (congr 1; omega)
theorem rot_same (D : Nat → Opn) (m i : Nat) (hm : i ≤ m) : swapR D (m - i) m i = rotR D (m - i) m (m + i) := by
  funext k
  unfold rotR swapR
  (repeat' split) <;> first | omega | rfl | (congr 1; omega)
set_option maxHeartbeats 1000000 in
theorem rotate (g N : Nat) (D : Nat → Opn) (R : Nat → Value) (n cap a m b : Nat) (cmp : Value) (w : World) (hd : OpBlk w g N D R n 121) (ham : a < m) (hmb : m < b) (hbn : b ≤ n) (hn : n ≤ 1000000) :
    Calls Tryd.prog 147 #[.slice (some ⟨g, 0, none⟩) n cap, .int .i64 a, .int .i64 m, .int .i64 b, cmp] w fun e w' => e = .returned (.tuple #[]) ∧ OpBlk w' g N (rotR D a m b) R n 121 ∧ Ch (· = g) w w' := by
  have hi0 : (m : Int) - (a : Int) = ((m - a : Nat) : Int) := by omega
  have hj0 : (b : Int) - (m : Int) = ((b - m : Nat) : Int) := by omega
  have HD := Lib.hid hd
  have HR0 := Lib.hid (show rotR D (m - (m - a)) m (m + (b - m)) = rotR D a m b from by rw [show m - (m - a) = a from by omega, show m + (b - m) = b from by omega])
  have hi1 : 1 ≤ m - a := by omega
  have hj1 : 1 ≤ b - m := by omega
  have hi2 : m - a ≤ m := by omega
  have hj2 : m + (b - m) ≤ n := by omega
  obtain ⟨i0, hie⟩ : ∃ i0, m - a = i0 := ⟨_, rfl⟩
  obtain ⟨j0, hje⟩ : ∃ j0, b - m = j0 := ⟨_, rfl⟩
  rw [hie] at hi0 HR0 hi1 hi2
  rw [hje] at hj0 HR0 hj1 hj2
  clear hie hje hd
  have hcr := Ch.refl (· = g) w
  go_enter Tryd.func147, Tryd.ntmps147
  go_wp2_with fail
  clear hi0 hj0
  go_loopw [10, 11] (fun x y wr => ∃ (i j : Nat) (E : Nat → Opn), x = .int .i64 i ∧ y = .int .i64 j ∧ 1 ≤ i ∧ 1 ≤ j ∧ i ≤ m ∧ m + j ≤ n ∧ Hid (rotR E (m - i) m (m + j) = rotR D a m b) ∧ Hid (OpBlk wr g N E R n 121) ∧ Ch (· = g) w wr) (fun x y _ => (intOf x).toNat + (intOf y).toNat)
  case atStart => exact ⟨i0, j0, D, rfl, rfl, hi1, hj1, hi2, hj2, HR0, HD, hcr⟩
  case round =>
    clear hi1 hj1 hi2 hj2 HR0 HD hcr
    obtain ⟨i, j, E, rfl, rfl, hi, hj, him, hjn, hrot, hb, hc⟩ := hrel
    by_cases he : i = j
    · subst he
      have hq : ((i : Int) != (i : Int)) = false := by simp
      have HS := Lib.hid (rot_same E m i him)
      have hsub : (m : Int) - (i : Int) = ((m - i : Nat) : Int) := by omega
      go_wp2_with fail
      refine (swap_range g N E R n cap (m - i) m i _ _ hb.out (by omega) (by omega) hn).mono ?_
      rintro e w2 ⟨rfl, hb2, hc2⟩
      rw [HS.out, hrot.out] at hb2
      have hc3 := hc.seqS hc2
      clear hsub hb hc hc2 hrot
      go_wp2_with fail
      go_end0
      exact ⟨rfl, hb2, hc3⟩
    · have hq : ((i : Int) != (j : Int)) = true := by simp; omega
      by_cases hlt : j < i
      · have hg : decide ((j : Int) < (i : Int)) = true := decide_eq_true (by omega)
        have HS := Lib.hid (rot_left E m i j hj hlt him)
        have hsub : (m : Int) - (i : Int) = ((m - i : Nat) : Int) := by omega
        go_wp2_with fail
        refine (swap_range g N E R n cap (m - i) m j _ _ hb.out (by omega) (by omega) hn).mono ?_
        rintro e w2 ⟨rfl, hb2, hc2⟩
        have HB := Lib.hid hb2
        have hc3 := hc.seqS hc2
        have HR2 := Lib.hid (show rotR (swapR E (m - i) m j) (m - (i - j)) m (m + j) = rotR D a m b from by
          rw [show m - (i - j) = m - i + j from by omega, HS.out, hrot.out])
        clear hsub hb hc hc2 hrot HS hb2
        have hsub2 : (i : Int) - (j : Int) = ((i - j : Nat) : Int) := by omega
        go_wp2_with fail
        clear hsub2
        go_roundw
        case rel => exact ⟨i - j, j, _, rfl, rfl, by omega, hj, by omega, hjn, HR2, HB, hc3⟩
        case measure => simp [intOf]; omega
      · have hg : decide ((j : Int) < (i : Int)) = false := decide_eq_false (by omega)
        have HS := Lib.hid (rot_right E m i j hi (by omega) him)
        have hsub : (m : Int) - (i : Int) = ((m - i : Nat) : Int) := by omega
        have hsub3 : (m : Int) + (j : Int) - (i : Int) = ((m + j - i : Nat) : Int) := by omega
        go_wp2_with fail
        refine (swap_range g N E R n cap (m - i) (m + j - i) i _ _ hb.out (by omega) (by omega) hn).mono ?_
        rintro e w2 ⟨rfl, hb2, hc2⟩
        have HB := Lib.hid hb2
        have hc3 := hc.seqS hc2
        have HR2 := Lib.hid (show rotR (swapR E (m - i) (m + j - i) i) (m - i) m (m + (j - i)) = rotR D a m b from by
          rw [show m + (j - i) = m + j - i from by omega, HS.out, hrot.out])
        clear hsub hsub3 hb hc hc2 hrot HS hb2
        have hsub2 : (j : Int) - (i : Int) = ((j - i : Nat) : Int) := by omega
        go_wp2_with fail
        clear hsub2
        go_roundw
        case rel => exact ⟨i, j - i, _, rfl, rfl, hi, by omega, him, by omega, HR2, HB, hc3⟩
        case measure => simp [intOf]; omega
end Go.Proofs.YtlhfpnkfapghoaaDoor
end

section
/- The library's insertion sort of operations by their keys. No condition but each theorem's own. -/
set_option linter.unusedVariables false
set_option linter.unusedSimpArgs false
namespace Go.Proofs.YtlhfpnkfapghoaaDoor
open Go.RowKit

/-- The comparison that the program hands over. -/
abbrev byKeyV : Value := .func (.func 137) #[] #[]
theorem cmpI_neg (a b : Int) : (cmpI a b < 0) = (a < b) := by
  unfold cmpI
  by_cases h : a < b
  · rw [if_pos h]; simp [h]
  · rw [if_neg h]
    split <;> simp [h]
/-- In order up to i, but for what stands at j, which is below all behind it. -/
def Hole (E : Nat → Opn) (a i j : Nat) : Prop := (∀ p q, a ≤ p → p < q → q ≤ i → p ≠ j → q ≠ j → (E p).key ≤ (E q).key) ∧ ∀ q, j < q → q ≤ i → (E j).key ≤ (E q).key
theorem Hole.start {E : Nat → Opn} {a i : Nat} (h : SortedOn E a i) : Hole E a i i := ⟨fun p q h1 h2 h3 h4 h5 => h p q h1 h2 (by omega), fun q h1 h2 => by omega⟩
theorem Hole.step {E : Nat → Opn} {a i j q : Nat} (h : Hole E a i j) (hj : j ≤ i) (hq : q + 1 = j) (ha : a ≤ q) (hlt : (E j).key < (E q).key) : Hole (swapD E j q) a i q := by
  obtain ⟨h1, h2⟩ := h
  refine ⟨fun p r hp hpr hr hpq hrq => ?_, fun r hr1 hr2 => ?_⟩
  · rw [swapD_get, swapD_get, if_neg hpq, if_neg hrq]
    by_cases e1 : p = j
    · rw [if_pos e1, if_neg (by omega)]
      exact h1 q r ha (by omega) hr (by omega) (by omega)
    · rw [if_neg e1]
      by_cases e2 : r = j
      · rw [if_pos e2]
        exact h1 p q hp (by omega) (by omega) e1 (by omega)
      · rw [if_neg e2]
        exact h1 p r hp hpr hr e1 e2
  · rw [swapD_get, swapD_get, if_pos rfl, if_neg (by omega)]
    by_cases e : r = j
    · rw [if_pos e]; omega
    · rw [if_neg e]
      exact h2 r (by omega) hr2
theorem Hole.stop {E : Nat → Opn} {a i j : Nat} (h : Hole E a i j) (hj : j ≤ i) (hs : ∀ q, q + 1 = j → a ≤ q → (E q).key ≤ (E j).key) : SortedOn E a (i + 1) := by
  obtain ⟨h1, h2⟩ := h
  intro p q hp hpq hq
  by_cases e1 : p = j
  · subst e1; exact h2 q hpq (by omega)
  · by_cases e2 : q = j
    · subst e2
      by_cases e3 : p + 1 = q
      · exact hs p e3 hp
      · have := h1 p (q - 1) hp (by omega) (by omega) e1 (by omega)
        have := hs (q - 1) (by omega) (by omega)
        omega
    · exact h1 p q hp hpq (by omega) e1 e2
set_option maxHeartbeats 2000000 in
theorem insertion_sort (g N : Nat) (D : Nat → Opn) (R : Nat → Value) (n cap a b : Nat) (w : World) (hd : OpBlk w g N D R n 121) (hab : a ≤ b) (hbn : b ≤ n) (hn : n ≤ 1000000) :
    Calls Tryd.prog 145 #[.slice (some ⟨g, 0, none⟩) n cap, .int .i64 a, .int .i64 b, byKeyV] w fun e w' => ∃ D', e = .returned (.tuple #[]) ∧ OpBlk w' g N D' R n 121 ∧ Shuf a b D D' ∧ SortedOn D' a b ∧ Ch (· = g) w w' := by
  have HD := Lib.hid hd
  have hcr := Ch.refl (· = g) w
  clear hd
  go_enter Tryd.func145, Tryd.ntmps145
  go_wp2_with fail
  go_loopw [8] (fun x wr => ∃ (i : Nat) (E : Nat → Opn), x = .int .i64 i ∧ a < i ∧ (i ≤ b ∨ i = a + 1) ∧ Hid (Shuf a b D E) ∧ Hid (SortedOn E a i) ∧ Hid (OpBlk wr g N E R n 121) ∧ Ch (· = g) w wr) (fun x _ => b + 1 - (intOf x).toNat)
  case atStart => exact ⟨a + 1, D, by go_num, by omega, by omega, Lib.hid (Shuf.refl _ _ _), Lib.hid (fun p q h1 h2 h3 => by omega), HD, hcr⟩
  case round =>
    clear HD hcr
    obtain ⟨i, E, rfl, hai, hib, hsh, hso, hb, hc⟩ := hrel
    by_cases hlt : i < b
    · have hd1 : decide ((i : Int) < (b : Int)) = true := decide_eq_true (by omega)
      have HH := Lib.hid (Hole.start hso.out)
      clear hso
      go_wp2_with fail
      go_loopw [9] (fun x wr => ∃ (j : Nat) (F : Nat → Opn), x = .int .i64 j ∧ a ≤ j ∧ j ≤ i ∧ Hid (Shuf a b D F) ∧ Hid (Hole F a i j) ∧ Hid (OpBlk wr g N F R n 121) ∧ Ch (· = g) w wr) (fun x _ => (intOf x).toNat)
      case atStart => exact ⟨i, E, rfl, by omega, Nat.le_refl _, hsh, HH, hb, hc⟩
      case round =>
        clear hsh HH hb hc
        obtain ⟨j, F, rfl, haj, hji, hsh, hho, hb, hc⟩ := hrel
        by_cases hja : a < j
        · have hg1 : decide ((a : Int) < (j : Int)) = true := decide_eq_true (by omega)
          obtain ⟨q, hq⟩ : ∃ q, j = q + 1 := ⟨j - 1, by omega⟩
          obtain ⟨x0, x1, x2⟩ := hb.out.at j (by omega)
          obtain ⟨y0, y1, y2⟩ := hb.out.at q (by omega)
          have X0 := fun u : Ext wr => Ext.cell x0 u
          have X1 := fun u : Ext wr => Ext.cell x1 u
          have X2 := fun u : Ext wr => Ext.cell x2 u
          have Y0 := fun u : Ext wr => Ext.cell y0 u
          have Y1 := fun u : Ext wr => Ext.cell y1 u
          have Y2 := fun u : Ext wr => Ext.cell y2 u
          have HK := Lib.hid (fun u : Ext wr => ext_of (by_key (F j) (F q) u.val))
          have hjn : (j : Int) < (n : Int) := by omega
          have hqn : (q : Int) < (n : Int) := by omega
          have hj0 : (0 : Int) ≤ (j : Int) := by omega
          have hq0 : (0 : Int) ≤ (q : Int) := by omega
          have hw1 : IntKind.i64.wrap ((j : Int) - 1) = (q : Int) := by rw [IntWalk.i64_in _ (by omega)]; omega
          have HQ := Lib.hid hq
          have CN := Lib.hid (cmpI_neg (F j).key (F q).key)
          clear hq
          by_cases hlt2 : (F j).key < (F q).key
          · have hcm : decide (cmpI (F j).key (F q).key < 0) = true := by rw [decide_eq_true_iff, CN.out]; exact hlt2
            have HST := Lib.hid (hho.out.step hji HQ.out.symm (by have := HQ.out; omega) hlt2)
            have HSW := Lib.hid (hsh.out.trans (Shuf.swap F (i := j) (j := q) ⟨by omega, by omega⟩ (by have := HQ.out; omega)))
            have hqj : q < j := by have := HQ.out; omega
            have haq : a ≤ q := by have := HQ.out; omega
            go_wp2_with fail
            refine wp_region_ch (w0 := wr) (by kernel_rfl) (by kernel_rfl) (Ch.refl _ _) ?_
            repeat (go_big_quiet_step ((go_at_call 137; exact HK.out _)))
            refine wpQuiet_nil ?_
            rintro wq ⟨⟨_, hcq⟩, rfl⟩
            have hbq := hb.out.keep hcq
            have hcq2 := (hc.seq hcq)
            clear X0 X1 X2 Y0 Y1 Y2 x0 x1 x2 y0 y1 y2 HK hb hc hcq
            obtain ⟨x0, x1, x2⟩ := hbq.at j (by omega)
            obtain ⟨y0, y1, y2⟩ := hbq.at q (by omega)
            have f0 := hbq.free (j * 3)
            have f1 := hbq.free (j * 3 + 1)
            have f2 := hbq.free (j * 3 + 2)
            have k0 := hbq.free (q * 3)
            have k1 := hbq.free (q * 3 + 1)
            have k2 := hbq.free (q * 3 + 2)
            have hb3 := Lib.hid ((hbq.put j (by omega) (F q)).put q (by omega) (F j)).drew
            have hb4 : Hid (OpBlk (putOp (putOp wq g j (F q)) g q (F j)).drew g N (swapD F j q) R n 121) := hb3
            have hc4 : Ch (· = g) w (putOp (putOp wq g j (F q)) g q (F j)).drew := ((hcq2.seqS (putOp_ch _ _ _ _)).seqS (putOp_ch _ _ _ _)).drew
            simp only [putOp] at hb4 hc4
            clear hb3 hbq hcq2
            go_wp2_with fail
            go_region_with fail
            all_goals
              clear x0 x1 x2 y0 y1 y2 f0 f1 f2 k0 k1 k2 hcm
              go_wp2_with fail
              go_roundw
              case rel => exact ⟨q, _, rfl, haq, by omega, HSW, HST, hb4, hc4⟩
              case measure => simp [intOf]; omega
          · have hcm : decide (cmpI (F j).key (F q).key < 0) = false := by rw [decide_eq_false_iff_not, CN.out]; exact hlt2
            have HSO := Lib.hid (hho.out.stop hji (fun p hp _ => by
              have : p = q := by have := HQ.out; omega
              rw [this]; omega))
            go_wp2_with fail
            refine wp_region_ch (w0 := wr) (by kernel_rfl) (by kernel_rfl) (Ch.refl _ _) ?_
            repeat (go_big_quiet_step ((go_at_call 137; exact HK.out _)))
            refine wpQuiet_nil ?_
            rintro wq ⟨⟨_, hcq⟩, rfl⟩
            have hbq := hb.out.keep hcq
            have hcq2 := (hc.seq hcq)
            clear X0 X1 X2 Y0 Y1 Y2 x0 x1 x2 y0 y1 y2 HK hb hc hcq
            have HB := Lib.hid hbq
            clear hbq hcm
            go_wp2_with fail
            go_roundw
            case rel => exact ⟨i + 1, F, by go_num, by omega, .inl (by omega), hsh, HSO, HB, hcq2⟩
            case measure => simp [intOf]; omega
        · obtain rfl : j = a := by omega
          have hg1 : decide ((j : Int) < (j : Int)) = false := by simp
          have HSO := Lib.hid (hho.out.stop hji (fun p hp h => by omega))
          clear hho hja
          go_wp2_with fail
          refine wp_region_ch (w0 := wr) (by kernel_rfl) (by kernel_rfl) (Ch.refl _ _) ?_
          repeat (go_big_quiet_step (fail))
          refine wpQuiet_nil ?_
          rintro wq ⟨⟨_, hcq⟩, rfl⟩
          have HB := Lib.hid (hb.out.keep hcq)
          have hcq2 := (hc.seq hcq)
          clear hb hc hcq
          go_wp2_with fail
          go_roundw
          case rel => exact ⟨i + 1, F, by go_num, by omega, .inl (by omega), hsh, HSO, HB, hcq2⟩
          case measure => simp [intOf]; omega
    · have hd1 : decide ((i : Int) < (b : Int)) = false := decide_eq_false (by omega)
      have HSO := Lib.hid (show SortedOn E a b from fun p q h1 h2 h3 => hso.out p q h1 h2 (by omega))
      clear hso
      go_wp2_with fail
      go_end0
      exact ⟨E, rfl, hb.out, hsh.out, HSO.out, hc⟩
end Go.Proofs.YtlhfpnkfapghoaaDoor
end

section
/- The library's merge of two stretches of operations by their keys. No condition but each theorem's own. -/
set_option linter.unusedVariables false
set_option linter.unusedSimpArgs false
namespace Go.Proofs.YtlhfpnkfapghoaaDoor
open Go.RowKit

/-! ### Plain -/
/-- The first one carried up to k, and down to k. -/
def shl (D : Nat → Opn) (a k : Nat) : Nat → Opn := fun x => if a ≤ x ∧ x < k then D (x + 1) else if x = k then D a else D x
def shr (D : Nat → Opn) (m k : Nat) : Nat → Opn := fun x => if k < x ∧ x ≤ m then D (x - 1) else if x = k then D m else D x
theorem shl_zero (D : Nat → Opn) (a : Nat) : shl D a a = D := by
  funext x
  unfold shl
  (repeat' split) <;> first | omega | rfl | (subst_vars; rfl)
theorem shr_zero (D : Nat → Opn) (m : Nat) : shr D m m = D := by
  funext x
  unfold shr
  (repeat' split) <;> first | omega | rfl | (subst_vars; rfl)
theorem shl_succ (D : Nat → Opn) (a k : Nat) (h : a ≤ k) : swapD (shl D a k) k (k + 1) = shl D a (k + 1) := by
  funext x
  rw [swapD_get]
  unfold shl
  (repeat' split) <;> first | omega | rfl | (congr 1; omega)
theorem shr_succ (D : Nat → Opn) (m k : Nat) (h : k + 1 ≤ m) : swapD (shr D m (k + 1)) (k + 1) k = shr D m k := by
  funext x
  rw [swapD_get]
  unfold shr
  (repeat' split) <;> first | omega | rfl | (congr 1; omega)
theorem shl_shuf (D : Nat → Opn) (a b : Nat) : ∀ d, a + d < b → Shuf a b D (shl D a (a + d))
  | 0, h => by rw [Nat.add_zero, shl_zero]; exact Shuf.refl _ _ _
  | d + 1, h => by
    have := (shl_shuf D a b d (by omega)).trans (Shuf.swap (shl D a (a + d)) (i := a + d) (j := a + d + 1) (by omega) (by omega))
    rwa [shl_succ D a (a + d) (by omega)] at this
theorem shr_shuf (D : Nat → Opn) (a m : Nat) : ∀ d, d ≤ m → a ≤ m - d → Shuf a (m + 1) D (shr D m (m - d))
  | 0, _, h => by rw [Nat.sub_zero, shr_zero]; exact Shuf.refl _ _ _
  | d + 1, h0, h => by
    have := (shr_shuf D a m d (by omega) (by omega)).trans (Shuf.swap (shr D m (m - d)) (i := m - d) (j := m - (d + 1)) (by omega) (by omega))
    have e : m - d = m - (d + 1) + 1 := by omega
    rw [e, shr_succ D m (m - (d + 1)) (by omega)] at this
    exact this
theorem shl_sorted {D : Nat → Opn} {a i b : Nat} (ha : a + 1 ≤ i) (hi : i ≤ b) (hs : SortedOn D (a + 1) b) (h1 : a + 1 < i → (D (i - 1)).key ≤ (D a).key) (h2 : i < b → (D a).key ≤ (D i).key) : SortedOn (shl D a (i - 1)) a b := by
  have hlo : ∀ k, a + 1 ≤ k → k < i → (D k).key ≤ (D a).key := fun k hk1 hk2 => by
    by_cases e : k = i - 1
    · subst e; exact h1 (by omega)
    · have := hs k (i - 1) hk1 (by omega) (by omega)
      have := h1 (by omega)
      omega
  have hhi : ∀ k, i ≤ k → k < b → (D a).key ≤ (D k).key := fun k hk1 hk2 => by
    by_cases e : k = i
    · subst e; exact h2 (by omega)
    · have := hs i k (by omega) (by omega) hk2
      have := h2 (by omega)
      omega
  intro p q hp hpq hq
  unfold shl
  by_cases c1 : p < i - 1
  · rw [if_pos ⟨hp, c1⟩]
    by_cases c2 : q < i - 1
    · rw [if_pos ⟨by omega, c2⟩]; exact hs _ _ (by omega) (by omega) (by omega)
    · rw [if_neg (by omega)]
      by_cases c3 : q = i - 1
      · rw [if_pos c3]; exact hlo _ (by omega) (by omega)
      · rw [if_neg c3]; exact hs _ _ (by omega) (by omega) (by omega)
  · rw [if_neg (by omega)]
    by_cases c3 : p = i - 1
    · rw [if_pos c3, if_neg (by omega), if_neg (by omega)]; exact hhi _ (by omega) (by omega)
    · rw [if_neg c3, if_neg (by omega), if_neg (by omega)]; exact hs _ _ (by omega) (by omega) (by omega)
theorem shr_sorted {D : Nat → Opn} {a i m : Nat} (ha : a ≤ i) (hi : i ≤ m) (hs : SortedOn D a m) (h1 : a < i → (D (i - 1)).key ≤ (D m).key) (h2 : i < m → (D m).key ≤ (D i).key) : SortedOn (shr D m i) a (m + 1) := by
  have hlo : ∀ k, a ≤ k → k < i → (D k).key ≤ (D m).key := fun k hk1 hk2 => by
    by_cases e : k = i - 1
    · subst e; exact h1 (by omega)
    · have := hs k (i - 1) hk1 (by omega) (by omega)
      have := h1 (by omega)
      omega
  have hhi : ∀ k, i ≤ k → k < m → (D m).key ≤ (D k).key := fun k hk1 hk2 => by
    by_cases e : k = i
    · subst e; exact h2 (by omega)
    · have := hs i k (by omega) (by omega) hk2
      have := h2 (by omega)
      omega
  intro p q hp hpq hq
  unfold shr
  by_cases c1 : p < i
  · rw [if_neg (by omega), if_neg (by omega)]
    by_cases c2 : i < q
    · rw [if_pos ⟨c2, by omega⟩]
      by_cases c3 : p = q - 1
      · omega
      · exact hs _ _ (by omega) (by omega) (by omega)
    · rw [if_neg (by omega)]
      by_cases c3 : q = i
      · rw [if_pos c3]; exact hlo _ hp c1
      · rw [if_neg c3]; exact hs _ _ hp hpq (by omega)
  · by_cases c2 : p = i
    · rw [if_neg (by omega), if_pos c2, if_pos ⟨by omega, by omega⟩]; exact hhi _ (by omega) (by omega)
    · rw [if_pos ⟨by omega, by omega⟩, if_pos ⟨by omega, by omega⟩]; exact hs _ _ (by omega) (by omega) (by omega)
theorem rotR_left (D : Nat → Opn) (m e : Nat) : rotR D m m e = D := by
  funext k
  unfold rotR
  (repeat' split) <;> first | omega | rfl | (congr 1; omega)
theorem rotR_right (D : Nat → Opn) (s m : Nat) : rotR D s m m = D := by
  funext k
  unfold rotR
  (repeat' split) <;> first | omega | rfl | (congr 1; omega)
theorem rotR_shuf (D : Nat → Opn) (s m e : Nat) (h1 : s ≤ m) (h2 : m ≤ e) : Shuf s e D (rotR D s m e) := by
  refine ⟨fun k => if s ≤ k ∧ k < e then (if k < s + (e - m) then k + (m - s) else k - (e - m)) else k, fun k => if s ≤ k ∧ k < e then (if k < m then k + (e - m) else k - (m - s)) else k, fun k => ?_, fun k => ?_, fun k hk => ?_, fun k => ?_⟩
  · simp only []
    (repeat' split) <;> omega
  · simp only []
    (repeat' split) <;> omega
  · simp only []
    rw [if_neg hk]
  · unfold rotR
    simp only []
    (repeat' split) <;> rfl
/-- What the exchange leaves: two halves, each of two stretches that are in order, the first half below the second one. -/
structure Halves (D : Nat → Opn) (a s mid e b : Nat) : Prop where
  u : SortedOn D a s
  x : SortedOn D s mid
  v : SortedOn D mid e
  y : SortedOn D e b
  le : ∀ p q, a ≤ p → p < mid → mid ≤ q → q < b → (D p).key ≤ (D q).key
theorem halves {D : Nat → Opn} {a s m e b mid : Nat} (h1 : SortedOn D a m) (h2 : SortedOn D m b) (has : a ≤ s) (hsm : s ≤ m) (hme : m ≤ e) (heb : e ≤ b) (hmid : mid + m = s + e)
    (huy : a < s → e < b → (D (s - 1)).key ≤ (D e).key) (hxv : s < m → m < e → (D (e - 1)).key ≤ (D s).key) : Halves (rotR D s m e) a s mid e b := by
  have hv : ∀ k, k < s → rotR D s m e k = D k := fun k hk => by unfold rotR; rw [if_neg (by omega)]
  have hx : ∀ k, s ≤ k → k < mid → rotR D s m e k = D (k + (m - s)) := fun k h h' => by unfold rotR; rw [if_pos (by omega), if_pos (by omega)]
  have hv2 : ∀ k, mid ≤ k → k < e → rotR D s m e k = D (k - (e - m)) := fun k h h' => by unfold rotR; rw [if_pos (by omega), if_neg (by omega)]
  have hy : ∀ k, e ≤ k → rotR D s m e k = D k := fun k hk => by unfold rotR; rw [if_neg (by omega)]
  have le1 : ∀ i j, a ≤ i → i ≤ j → j < m → (D i).key ≤ (D j).key := fun i j hi hij hj => by
    by_cases e : i = j
    · subst e; omega
    · exact h1 i j hi (by omega) hj
  have le2 : ∀ i j, m ≤ i → i ≤ j → j < b → (D i).key ≤ (D j).key := fun i j hi hij hj => by
    by_cases e : i = j
    · subst e; omega
    · exact h2 i j hi (by omega) hj
  refine ⟨fun p q hp hpq hq => ?_, fun p q hp hpq hq => ?_, fun p q hp hpq hq => ?_, fun p q hp hpq hq => ?_, fun p q hp hp2 hq hq2 => ?_⟩
  · rw [hv p (by omega), hv q (by omega)]; exact h1 p q hp hpq (by omega)
  · rw [hx p (by omega) (by omega), hx q (by omega) (by omega)]; exact h2 _ _ (by omega) (by omega) (by omega)
  · rw [hv2 p (by omega) (by omega), hv2 q (by omega) (by omega)]; exact h1 _ _ (by omega) (by omega) (by omega)
  · rw [hy p (by omega), hy q (by omega)]; exact h2 _ _ (by omega) (by omega) (by omega)
  · by_cases c1 : p < s
    · rw [hv p c1]
      by_cases c2 : q < e
      · rw [hv2 q hq c2]; exact le1 _ _ hp (by omega) (by omega)
      · rw [hy q (by omega)]
        have k1 := le1 p (s - 1) hp (by omega) (by omega)
        have k2 := huy (by omega) (by omega)
        have k3 := le2 e q (by omega) (by omega) hq2
        omega
    · rw [hx p (by omega) hp2]
      by_cases c2 : q < e
      · rw [hv2 q hq c2]
        have k1 := le2 (p + (m - s)) (e - 1) (by omega) (by omega) (by omega)
        have k2 := hxv (by omega) (by omega)
        have k3 := le1 s (q - (e - m)) (by omega) (by omega) (by omega)
        omega
      · rw [hy q (by omega)]; exact le2 _ _ (by omega) (by omega) (by omega)
theorem sorted_join {D : Nat → Opn} {a m b : Nat} (h1 : SortedOn D a m) (h2 : SortedOn D m b) (h : a < m → m < b → (D (m - 1)).key ≤ (D m).key) : SortedOn D a b := by
  intro p q hp hpq hq
  by_cases c1 : q < m
  · exact h1 p q hp hpq c1
  · by_cases c2 : m ≤ p
    · exact h2 p q c2 hpq hq
    · have k2 := h (by omega) (by omega)
      have k1 : (D p).key ≤ (D (m - 1)).key := by
        by_cases e : p = m - 1
        · rw [e]; omega
        · exact h1 p (m - 1) hp (by omega) (by omega)
      have k3 : (D m).key ≤ (D q).key := by
        by_cases e : q = m
        · rw [e]; omega
        · exact h2 m q (Nat.le_refl _) (by omega) hq
      omega
theorem halves_done {D D3 D4 : Nat → Opn} {a s mid e b : Nat} (h : Halves D a s mid e b) (ham : a ≤ mid) (hmb : mid ≤ b) (h1 : Shuf a mid D D3) (s1 : SortedOn D3 a mid) (h2 : Shuf mid b D3 D4) (s2 : SortedOn D4 mid b) : Shuf a b D D4 ∧ SortedOn D4 a b := by
  refine ⟨(h1.mono (Nat.le_refl _) hmb).trans (h2.mono ham (Nat.le_refl _)), fun p q hp hpq hq => ?_⟩
  by_cases c1 : q < mid
  · rw [h2.out p (by omega), h2.out q (by omega)]; exact s1 p q hp hpq c1
  · by_cases c2 : mid ≤ p
    · exact s2 p q c2 hpq hq
    · rw [h2.out p (by omega)]
      obtain ⟨i, hi1, hi2, he1⟩ := h1.mem p hp (by omega)
      obtain ⟨j, hj1, hj2, he2⟩ := h2.mem q (by omega) hq
      rw [he1, he2, h1.out j (by omega)]
      exact h.le i j hi1 hi2 hj1 hj2
end Go.Proofs.YtlhfpnkfapghoaaDoor
end

section
/- The library's merge of two stretches of operations by their keys: the walk. No condition but each theorem's own. -/
set_option linter.unusedVariables false
set_option linter.unusedSimpArgs false
namespace Go.Proofs.YtlhfpnkfapghoaaDoor
open Go.RowKit

/-- What the merge leaves. -/
def RetMerge (g N : Nat) (D : Nat → Opn) (R : Nat → Value) (n a b : Nat) (w : World) (e : Ending) (w' : World) : Prop := ∃ D', e = .returned (.tuple #[]) ∧ OpBlk w' g N D' R n 121 ∧ Shuf a b D D' ∧ SortedOn D' a b ∧ Ch (· = g) w w'
set_option maxRecDepth 100000 in
set_option maxHeartbeats 4000000 in
theorem merge_one (g N : Nat) (D : Nat → Opn) (R : Nat → Value) (n cap a b : Nat) (w : World) (hd : OpBlk w g N D R n 121) (hab : a + 1 < b) (hbn : b ≤ n) (hn : n ≤ 1000000) (hs : SortedOn D (a + 1) b) :
    Calls Tryd.prog 146 #[.slice (some ⟨g, 0, none⟩) n cap, .int .i64 a, .int .i64 (a + 1 : Nat), .int .i64 b, byKeyV] w (RetMerge g N D R n a b w) := by
  have HD := Lib.hid hd
  have HS := Lib.hid hs
  have hcr := Ch.refl (· = g) w
  obtain ⟨m, hm⟩ : ∃ m, a + 1 = m := ⟨_, rfl⟩
  have HM := Lib.hid hm
  rw [hm]
  have hsub : (m : Int) - (a : Int) = 1 := by omega
  clear hd hs hm
  go_enter Tryd.func146, Tryd.ntmps146
  go_wp2_with fail
  clear hsub
  have hma := HM.out
  have hmb : m ≤ b := by omega
  clear hma
  go_loopw [10, 11] (fun x y wr => ∃ i j : Nat, x = .int .i64 i ∧ y = .int .i64 j ∧ m ≤ i ∧ i ≤ j ∧ j ≤ b ∧ Hid ((m < i → (D (i - 1)).key ≤ (D a).key) ∧ (j < b → (D a).key ≤ (D j).key)) ∧ Hid (OpBlk wr g N D R n 121) ∧ Ch (· = g) w wr) (fun x y _ => (intOf y).toNat - (intOf x).toNat)
  case atStart => exact ⟨m, b, rfl, rfl, Nat.le_refl _, hmb, Nat.le_refl _, Lib.hid ⟨fun h => by omega, fun h => by omega⟩, HD, hcr⟩
  case round =>
    clear HD hcr
    obtain ⟨i, j, rfl, rfl, hmi, hij, hjb, hP, hb, hc⟩ := hrel
    by_cases hlt : i < j
    · have hd1 : decide ((i : Int) < (j : Int)) = true := decide_eq_true (by omega)
      obtain ⟨h, hh⟩ : ∃ h, (i + j) / 2 = h := ⟨_, rfl⟩
      have hh1 : i ≤ h := by omega
      have hh2 : h < j := by omega
      have hhi : ((i : Int) + (j : Int)) / 2 = (h : Int) := by omega
      have hn1 : (h : Int) < (n : Int) := by omega
      have hn2 : (a : Int) < (n : Int) := by omega
      have hn0 : (0 : Int) ≤ (h : Int) := by omega
      have hn3 : (0 : Int) ≤ (a : Int) := by omega
      clear hh
      obtain ⟨x0, x1, x2⟩ := hb.out.at h (by omega)
      obtain ⟨y0, y1, y2⟩ := hb.out.at a (by omega)
      have X0 := fun u : Ext wr => Ext.cell x0 u
      have X1 := fun u : Ext wr => Ext.cell x1 u
      have X2 := fun u : Ext wr => Ext.cell x2 u
      have Y0 := fun u : Ext wr => Ext.cell y0 u
      have Y1 := fun u : Ext wr => Ext.cell y1 u
      have Y2 := fun u : Ext wr => Ext.cell y2 u
      have HK := Lib.hid (fun u : Ext wr => ext_of (by_key (D h) (D a) u.val))
      have CN := Lib.hid (cmpI_neg (D h).key (D a).key)
      by_cases hlt2 : (D h).key < (D a).key
      · have hcm : decide (cmpI (D h).key (D a).key < 0) = true := by rw [decide_eq_true_iff, CN.out]; exact hlt2
        have HP2 : Hid ((m < h + 1 → (D (h + 1 - 1)).key ≤ (D a).key) ∧ (j < b → (D a).key ≤ (D j).key)) := Lib.hid ⟨fun _ => by rw [Nat.add_sub_cancel]; omega, hP.out.2⟩
        go_wp2_with fail
        refine wp_region_ch (w0 := wr) (by kernel_rfl) (by kernel_rfl) (Ch.refl _ _) ?_
        repeat (go_big_quiet_step ((go_at_call 137; exact HK.out _)))
        refine wpQuiet_nil ?_
        rintro wq ⟨⟨_, hcq⟩, rfl⟩
        have HB := Lib.hid (hb.out.keep hcq)
        have hcq2 := (hc.seq hcq)
        clear X0 X1 X2 Y0 Y1 Y2 x0 x1 x2 y0 y1 y2 HK hb hc hcq hcm
        go_wp2_with fail
        go_roundw
        case rel => exact ⟨h + 1, j, by go_num, rfl, by omega, by omega, hjb, HP2, HB, hcq2⟩
        case measure => simp [intOf]; omega
      · have hcm : decide (cmpI (D h).key (D a).key < 0) = false := by rw [decide_eq_false_iff_not, CN.out]; exact hlt2
        have HP2 : Hid ((m < i → (D (i - 1)).key ≤ (D a).key) ∧ (h < b → (D a).key ≤ (D h).key)) := Lib.hid ⟨hP.out.1, fun _ => by omega⟩
        go_wp2_with fail
        refine wp_region_ch (w0 := wr) (by kernel_rfl) (by kernel_rfl) (Ch.refl _ _) ?_
        repeat (go_big_quiet_step ((go_at_call 137; exact HK.out _)))
        refine wpQuiet_nil ?_
        rintro wq ⟨⟨_, hcq⟩, rfl⟩
        have HB := Lib.hid (hb.out.keep hcq)
        have hcq2 := (hc.seq hcq)
        clear X0 X1 X2 Y0 Y1 Y2 x0 x1 x2 y0 y1 y2 HK hb hc hcq hcm
        go_wp2_with fail
        go_roundw
        case rel => exact ⟨i, h, rfl, rfl, hmi, hh1, by omega, HP2, HB, hcq2⟩
        case measure => simp [intOf]; omega
    · obtain rfl : i = j := by omega
      have hd1 : decide ((i : Int) < (i : Int)) = false := by simp
      obtain ⟨wo, rfl⟩ : ∃ wo : World, wo = wr := ⟨_, rfl⟩
      have HSH := Lib.hid (show Shuf a b D (shl D a (i - 1)) from by
        have := shl_shuf D a b (i - 1 - a) (by have := HM.out; omega)
        rwa [show a + (i - 1 - a) = i - 1 from by have := HM.out; omega] at this)
      have HSO := Lib.hid (shl_sorted (b := b) (by have := HM.out; omega) hjb HS.out (by rw [HM.out]; exact hP.out.1) hP.out.2)
      have HB1 := Lib.hid (show OpBlk wo g N (shl D a a) R n 121 from by rw [shl_zero]; exact hb.out)
      have hai : a ≤ i - 1 := by have := HM.out; omega
      have hii : (i : Int) - 1 = ((i - 1 : Nat) : Int) := by have := HM.out; omega
      obtain ⟨z, hz⟩ : ∃ z, i - 1 = z := ⟨_, rfl⟩
      rw [hz] at HSH HSO hai hii
      have hzb : z + 1 ≤ b := by have := HM.out; omega
      clear hz hb hP
      go_wp2_with fail
      go_loopw [13] (fun x wr => ∃ k : Nat, x = .int .i64 k ∧ a ≤ k ∧ k ≤ z ∧ Hid (OpBlk wr g N (shl D a k) R n 121) ∧ Ch (· = g) w wr) (fun x _ => z - (intOf x).toNat)
      case atStart => exact ⟨a, rfl, Nat.le_refl _, hai, HB1, hc⟩
      case round =>
        clear HB1 hc
        obtain ⟨k, rfl, hak, hkz, hb, hc⟩ := hrel
        by_cases hlt2 : k < z
        · have hd2 : decide ((k : Int) < (z : Int)) = true := decide_eq_true (by omega)
          have HST := Lib.hid (shl_succ D a k hak)
          obtain ⟨E, hE⟩ : ∃ E, shl D a k = E := ⟨_, rfl⟩
          rw [hE] at hb HST
          clear hE
          obtain ⟨x0, x1, x2⟩ := hb.out.at k (by omega)
          obtain ⟨y0, y1, y2⟩ := hb.out.at (k + 1) (by omega)
          have f0 := hb.out.free (k * 3)
          have f1 := hb.out.free (k * 3 + 1)
          have f2 := hb.out.free (k * 3 + 2)
          have k0 := hb.out.free ((k + 1) * 3)
          have k1 := hb.out.free ((k + 1) * 3 + 1)
          have k2 := hb.out.free ((k + 1) * 3 + 2)
          have hb3 := ((hb.out.put k (by omega) (E (k + 1))).put (k + 1) (by omega) (E k)).drew
          have hb4 : Hid (OpBlk (putOp (putOp wr g k (E (k + 1))) g (k + 1) (E k)).drew g N (shl D a (k + 1)) R n 121) := Lib.hid (by rw [← HST.out]; exact hb3)
          have hc4 : Ch (· = g) w (putOp (putOp wr g k (E (k + 1))) g (k + 1) (E k)).drew := ((hc.seqS (putOp_ch _ _ _ _)).seqS (putOp_ch _ _ _ _)).drew
          simp only [putOp] at hb4 hc4
          have hq1 : (k : Int) + 1 < (n : Int) := by omega
          have hq2 : (k : Int) < (n : Int) := by omega
          have hq3 : (0 : Int) ≤ (k : Int) := by omega
          have hq4 : (0 : Int) ≤ (k : Int) + 1 := by omega
          have hw1 : IntKind.i64.wrap ((k : Int) + 1) = (k : Int) + 1 := IntWalk.i64_in _ (by omega)
          have ht1 : ((k : Int) + 1).toNat = k + 1 := by omega
          clear hb3 hb hc HST
          go_wp2_with fail
          go_region_with fail
          all_goals
            clear x0 x1 x2 y0 y1 y2 f0 f1 f2 k0 k1 k2 hw1 ht1
            go_wp2_with fail
            go_roundw
            case rel => exact ⟨k + 1, by go_num, by omega, by omega, hb4, hc4⟩
            case measure => simp [intOf]; omega
        · obtain rfl : k = z := by omega
          have hd2 : decide ((k : Int) < (k : Int)) = false := by simp
          go_wp2_with fail
          go_end0
          exact ⟨_, rfl, hb.out, HSH.out, HSO.out, hc⟩
end Go.Proofs.YtlhfpnkfapghoaaDoor
end

section
/- The library's merge of two stretches of operations by their keys: the walk, when the second is of one. No condition but each theorem's own. -/
set_option linter.unusedVariables false
set_option linter.unusedSimpArgs false
namespace Go.Proofs.YtlhfpnkfapghoaaDoor
open Go.RowKit

set_option maxRecDepth 100000 in
set_option maxHeartbeats 4000000 in
theorem merge_last (g N : Nat) (D : Nat → Opn) (R : Nat → Value) (n cap a m : Nat) (w : World) (hd : OpBlk w g N D R n 121) (hab : a + 1 < m) (hbn : m + 1 ≤ n) (hn : n ≤ 1000000) (hs : SortedOn D a m) :
    Calls Tryd.prog 146 #[.slice (some ⟨g, 0, none⟩) n cap, .int .i64 a, .int .i64 m, .int .i64 (m + 1 : Nat), byKeyV] w (RetMerge g N D R n a (m + 1) w) := by
  have HD := Lib.hid hd
  have HS := Lib.hid hs
  have hcr := Ch.refl (· = g) w
  obtain ⟨b, hb0⟩ : ∃ b, m + 1 = b := ⟨_, rfl⟩
  have HM := Lib.hid hb0
  rw [hb0]
  obtain ⟨d, hd0⟩ : ∃ d : Int, (m : Int) - (a : Int) = d := ⟨_, rfl⟩
  have hsub0 : (d == 1) = false := by simp; omega
  have hsub : (b : Int) - (m : Int) = 1 := by omega
  have hmn : m < n := by omega
  clear hd hs hb0
  go_enter Tryd.func146, Tryd.ntmps146
  go_wp2_with fail
  clear hsub hsub0 hd0
  have ham : a ≤ m := by omega
  go_loopw [14, 15] (fun x y wr => ∃ i j : Nat, x = .int .i64 i ∧ y = .int .i64 j ∧ a ≤ i ∧ i ≤ j ∧ j ≤ m ∧ Hid ((a < i → (D (i - 1)).key ≤ (D m).key) ∧ (j < m → (D m).key ≤ (D j).key)) ∧ Hid (OpBlk wr g N D R n 121) ∧ Ch (· = g) w wr) (fun x y _ => (intOf y).toNat - (intOf x).toNat)
  case atStart => exact ⟨a, m, rfl, rfl, Nat.le_refl _, ham, Nat.le_refl _, Lib.hid ⟨fun h => by omega, fun h => by omega⟩, HD, hcr⟩
  case round =>
    clear HD hcr
    obtain ⟨i, j, rfl, rfl, hmi, hij, hjb, hP, hb, hc⟩ := hrel
    by_cases hlt : i < j
    · have hd1 : decide ((i : Int) < (j : Int)) = true := decide_eq_true (by omega)
      obtain ⟨h, hh⟩ : ∃ h, (i + j) / 2 = h := ⟨_, rfl⟩
      have hh1 : i ≤ h := by omega
      have hh2 : h < j := by omega
      have hhi : ((i : Int) + (j : Int)) / 2 = (h : Int) := by omega
      have hn1 : (h : Int) < (n : Int) := by omega
      have hn2 : (m : Int) < (n : Int) := by omega
      have hn0 : (0 : Int) ≤ (h : Int) := by omega
      have hn3 : (0 : Int) ≤ (m : Int) := by omega
      clear hh
      obtain ⟨x0, x1, x2⟩ := hb.out.at h (by omega)
      obtain ⟨y0, y1, y2⟩ := hb.out.at m (by omega)
      have X0 := fun u : Ext wr => Ext.cell x0 u
      have X1 := fun u : Ext wr => Ext.cell x1 u
      have X2 := fun u : Ext wr => Ext.cell x2 u
      have Y0 := fun u : Ext wr => Ext.cell y0 u
      have Y1 := fun u : Ext wr => Ext.cell y1 u
      have Y2 := fun u : Ext wr => Ext.cell y2 u
      have HK := Lib.hid (fun u : Ext wr => ext_of (by_key (D m) (D h) u.val))
      have CN := Lib.hid (cmpI_neg (D m).key (D h).key)
      by_cases hlt2 : (D m).key < (D h).key
      · have hcm : decide (cmpI (D m).key (D h).key < 0) = true := by rw [decide_eq_true_iff, CN.out]; exact hlt2
        have HP2 : Hid ((a < i → (D (i - 1)).key ≤ (D m).key) ∧ (h < m → (D m).key ≤ (D h).key)) := Lib.hid ⟨hP.out.1, fun _ => by omega⟩
        go_wp2_with fail
        refine wp_region_ch (w0 := wr) (by kernel_rfl) (by kernel_rfl) (Ch.refl _ _) ?_
        repeat (go_big_quiet_step ((go_at_call 137; exact HK.out _)))
        refine wpQuiet_nil ?_
        rintro wq ⟨⟨_, hcq⟩, rfl⟩
        have HB := Lib.hid (hb.out.keep hcq)
        have hcq2 := (hc.seq hcq)
        clear X0 X1 X2 Y0 Y1 Y2 x0 x1 x2 y0 y1 y2 HK hb hc hcq hcm
        go_wp2_with fail
        go_roundw
        case rel => exact ⟨i, h, rfl, rfl, hmi, hh1, by omega, HP2, HB, hcq2⟩
        case measure => simp [intOf]; omega
      · have hcm : decide (cmpI (D m).key (D h).key < 0) = false := by rw [decide_eq_false_iff_not, CN.out]; exact hlt2
        have HP2 : Hid ((a < h + 1 → (D (h + 1 - 1)).key ≤ (D m).key) ∧ (j < m → (D m).key ≤ (D j).key)) := Lib.hid ⟨fun _ => by rw [Nat.add_sub_cancel]; omega, hP.out.2⟩
        go_wp2_with fail
        refine wp_region_ch (w0 := wr) (by kernel_rfl) (by kernel_rfl) (Ch.refl _ _) ?_
        repeat (go_big_quiet_step ((go_at_call 137; exact HK.out _)))
        refine wpQuiet_nil ?_
        rintro wq ⟨⟨_, hcq⟩, rfl⟩
        have HB := Lib.hid (hb.out.keep hcq)
        have hcq2 := (hc.seq hcq)
        clear X0 X1 X2 Y0 Y1 Y2 x0 x1 x2 y0 y1 y2 HK hb hc hcq hcm
        go_wp2_with fail
        go_roundw
        case rel => exact ⟨h + 1, j, by go_num, rfl, by omega, by omega, hjb, HP2, HB, hcq2⟩
        case measure => simp [intOf]; omega
    · obtain rfl : i = j := by omega
      have hd1 : decide ((i : Int) < (i : Int)) = false := by simp
      obtain ⟨wo, rfl⟩ : ∃ wo : World, wo = wr := ⟨_, rfl⟩
      have HSH := Lib.hid (show Shuf a b D (shr D m i) from by
        have := shr_shuf D a m (m - i) (by omega) (by omega)
        rwa [show m - (m - i) = i from by omega, HM.out] at this)
      have HSO := Lib.hid (show SortedOn (shr D m i) a b from by
        have := shr_sorted hmi hjb HS.out hP.out.1 hP.out.2
        rwa [HM.out] at this)
      have HB1 := Lib.hid (show OpBlk wo g N (shr D m m) R n 121 from by rw [shr_zero]; exact hb.out)
      clear hb hP
      go_wp2_with fail
      go_loopw [17] (fun x wr => ∃ k : Nat, x = .int .i64 k ∧ i ≤ k ∧ k ≤ m ∧ Hid (OpBlk wr g N (shr D m k) R n 121) ∧ Ch (· = g) w wr) (fun x _ => (intOf x).toNat)
      case atStart => exact ⟨m, rfl, hjb, Nat.le_refl _, HB1, hc⟩
      case round =>
        clear HB1 hc
        obtain ⟨k, rfl, hak, hkz, hb, hc⟩ := hrel
        by_cases hlt2 : i < k
        · have hd2 : decide ((i : Int) < (k : Int)) = true := decide_eq_true (by omega)
          obtain ⟨q, rfl⟩ : ∃ q, k = q + 1 := ⟨k - 1, by omega⟩
          have HST := Lib.hid (shr_succ D m q hkz)
          obtain ⟨E, hE⟩ : ∃ E, shr D m (q + 1) = E := ⟨_, rfl⟩
          rw [hE] at hb HST
          clear hE
          obtain ⟨x0, x1, x2⟩ := hb.out.at q (by omega)
          obtain ⟨y0, y1, y2⟩ := hb.out.at (q + 1) (by omega)
          have f0 := hb.out.free (q * 3)
          have f1 := hb.out.free (q * 3 + 1)
          have f2 := hb.out.free (q * 3 + 2)
          have k0 := hb.out.free ((q + 1) * 3)
          have k1 := hb.out.free ((q + 1) * 3 + 1)
          have k2 := hb.out.free ((q + 1) * 3 + 2)
          have hb3 := ((hb.out.put (q + 1) (by omega) (E q)).put q (by omega) (E (q + 1))).drew
          have hb4 : Hid (OpBlk (putOp (putOp wr g (q + 1) (E q)) g q (E (q + 1))).drew g N (shr D m q) R n 121) := Lib.hid (by rw [← HST.out]; exact hb3)
          have hc4 : Ch (· = g) w (putOp (putOp wr g (q + 1) (E q)) g q (E (q + 1))).drew := ((hc.seqS (putOp_ch _ _ _ _)).seqS (putOp_ch _ _ _ _)).drew
          simp only [putOp] at hb4 hc4
          obtain ⟨K, hK⟩ : ∃ K : Int, K = ((q + 1 : Nat) : Int) := ⟨_, rfl⟩
          have hKq : K - 1 = (q : Int) := by omega
          rw [← hK] at hd2 ⊢
          have hq1 : K < (n : Int) := by omega
          have hq2 : (q : Int) < (n : Int) := by omega
          have hq3 : (0 : Int) ≤ (q : Int) := by omega
          have hq4 : (0 : Int) ≤ K := by omega
          have hw1 : IntKind.i64.wrap (K - 1) = (q : Int) := by rw [hKq]; exact IntWalk.i64_in _ (by omega)
          have ht1 : K.toNat = q + 1 := by omega
          have hK2 := Lib.hid hK
          clear hb3 hb hc HST hK hKq
          go_wp2_with fail
          go_region_with fail
          all_goals
            clear x0 x1 x2 y0 y1 y2 f0 f1 f2 k0 k1 k2 ht1 hw1
            go_wp2_with fail
            go_roundw
            case rel => exact ⟨q, by have := hK2.out; go_num, by omega, by omega, hb4, hc4⟩
            case measure => have := hK2.out; simp [intOf]; omega
        · obtain rfl : i = k := by omega
          have hd2 : decide ((i : Int) < (i : Int)) = false := by simp
          go_wp2_with fail
          go_end0
          exact ⟨_, rfl, hb.out, HSH.out, HSO.out, hc⟩
end Go.Proofs.YtlhfpnkfapghoaaDoor
end
