/- Arrays as functions of the index: their cells, reads and stores, whole and one by one. No condition. -/
import Derived.Test.YtobfanodjdkkoaaDoorKit
import Derived.Laws.Tables
import Derived.Deep.RegionWith
set_option linter.unusedVariables false
set_option linter.unusedSimpArgs false
namespace Go.Proofs.YtobfanodjdkkoaaDoor
open Go.RowKit

/-- An array's cells, by a function of the index. -/
def arrOf (n : Nat) (f : Nat → Value) : Array Value := Array.ofFn (n := n) fun i => f i.val
theorem arrOf_size (n : Nat) (f : Nat → Value) : (arrOf n f).size = n := by simp [arrOf]
theorem arrOf_get (n : Nat) (f : Nat → Value) (i : Nat) (h : i < n) : (arrOf n f)[i]? = some (f i) := by
  simp [arrOf, Array.getElem?_ofFn, h]
theorem arrOf_ext {n : Nat} {f g : Nat → Value} (h : ∀ i, i < n → f i = g i) : arrOf n f = arrOf n g := by
  unfold arrOf
  congr 1
  funext i
  exact h i.val i.isLt
theorem arrOf_set (n : Nat) (f : Nat → Value) (i : Nat) (v : Value) : (arrOf n f).setIfInBounds i v = arrOf n fun k => if k = i then v else f k := by
  apply Array.ext
  · simp [arrOf]
  · intro j h1 h2
    simp only [arrOf, Array.size_setIfInBounds, Array.size_ofFn] at h1 h2
    simp only [arrOf, Array.getElem_setIfInBounds, Array.getElem_ofFn]
    split <;> simp_all [eq_comm]
theorem arrOf_cells (n : Nat) (f : Nat → Value) (h : ∀ i, i < n → (f i).oneCell' = true) : (arrOf n f).all (·.oneCell') = true := by
  rw [Array.all_eq_true]
  intro i hi
  simp only [arrOf, Array.getElem_ofFn]
  exact h i (by rwa [arrOf_size] at hi)
theorem arrOf_extract (n : Nat) (f : Nat → Value) (a m : Nat) (h : a + m ≤ n) : (arrOf n f).extract a (a + m) = arrOf m fun k => f (a + k) := by
  apply Array.ext
  · simp [arrOf]; omega
  · intro j h1 h2
    simp [arrOf, Array.getElem_extract]

theorem Blk.row {w : World} {g : Nat} {cs : Array Value} {T : TypeId} (h : Blk w g cs T) (cs' : Array Value) : Blk (w.setRow g cs') g cs' T :=
  setRow_heap w g cs cs' T (0, 0) h
theorem Ch.setRow {S : Nat → Prop} {a w : World} (h : Ch S a w) (g : Nat) (cs : Array Value) (hp : g < a.heap.size → S g) : Ch S a (w.setRow g cs) :=
  h.trans (T := fun k => k = g) ⟨rfl, rfl, rfl, by simp, fun k _ hk => setRow_other w g k cs hk⟩ (by rintro i hi rfl; exact hp hi)
theorem Blk.cellOf {w : World} {g n : Nat} {f : Nat → Value} {T : TypeId} (h : Blk w g (arrOf n f) T) (i : Nat) (hi : i < n) : w.cell? ⟨g, i, none⟩ = some (f i) :=
  h.cell (arrOf_get n f i hi)
theorem Blk.setOf {w : World} {g n : Nat} {f : Nat → Value} {T : TypeId} (h : Blk w g (arrOf n f) T) (i : Nat) (v : Value) : Blk (w.setCell ⟨g, i, none⟩ v) g (arrOf n fun k => if k = i then v else f k) T := by
  have := h.set i v
  rwa [arrOf_set] at this
theorem Blk.congr {w : World} {g n : Nat} {f f' : Nat → Value} {T : TypeId} (h : Blk w g (arrOf n f) T) (he : ∀ i, i < n → f i = f' i) : Blk w g (arrOf n f') T := by
  rwa [arrOf_ext he] at h
theorem one_new (w : World) (cs : Array Value) (T : TypeId) : Blk (w.alloc (.cells cs T)) w.heap.size cs T ∧ Ch nob w (w.alloc (.cells cs T)) ∧ (w.alloc (.cells cs T)).heap.size = w.heap.size + 1 :=
  ⟨Blk.new _ _ _, (Ch.refl _ _).alloc _, by simp⟩
theorem two_new (w : World) (cs cs' : Array Value) (T T' : TypeId) : Blk ((w.alloc (.cells cs T)).alloc (.cells cs' T')) w.heap.size cs T ∧ Blk ((w.alloc (.cells cs T)).alloc (.cells cs' T')) (w.heap.size + 1) cs' T' ∧ Ch nob w ((w.alloc (.cells cs T)).alloc (.cells cs' T')) ∧ ((w.alloc (.cells cs T)).alloc (.cells cs' T')).heap.size = w.heap.size + 2 :=
  ⟨(Blk.new _ _ _).alloc _, by simpa using Blk.new (w.alloc (.cells cs T)) cs' T', ((Ch.refl _ _).alloc _).alloc _, by simp⟩

/-- An array's element that is itself an array or a struct. -/
theorem run_index_agg {P : Program} {T e : TypeId} {len s : Nat} (hT : P.underlying T = some (.array len e)) (w : World)
    (hag : (isAgg e).run P w = .ok true w) (hs : (sizeOf e).run P w = .ok s w) (cs : Array Value) (k : IntKind) (i : Int) (h0 : 0 ≤ i) (h1 : i < len) :
    (Instr.index T (.agg cs) (.int k i)).run P w = .ok (.agg (cs.extract (i.toNat * s) (i.toNat * s + s))) w := by
  simp [Instr.index, asIntOf, run_underlying hT, h0, h1, hs, part, hag]
end Go.Proofs.YtobfanodjdkkoaaDoor
