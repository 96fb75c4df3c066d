/- Texts of this claim, merged: HistCp HistSm Tail HistL4 LevelPure Level ArrEq. -/
import Derived.Test.YtlhfpnkfapghoaaDoorPk0
import Derived.Test.YtlhfpnkfapghoaaDoorPk3
import Derived.StillTail
import Derived.OpenShut
import Derived.Laws.StructEq
section
/- A history apart (history.Copy): rows of transactions of a call's own. No condition but each theorem's own. -/
set_option linter.unusedVariables false
set_option linter.unusedSimpArgs false
namespace Go.Proofs.YtlhfpnkfapghoaaDoor
open Go.RowKit Go.Maps

theorem flatO_one : ∀ (l : List Opn), ∀ u ∈ flatO l, u.oneCell' = true
  | [], u, h => by cases h
  | p :: l, u, h => by
    simp only [flatO, List.mem_cons] at h
    rcases h with rfl | rfl | rfl | h
    · rfl
    · rfl
    · rfl
    · exact flatO_one l u h
/-- 'append(s, x...)', x without a row. -/
theorem wpList_append_void {P : Program} {w : World} {ops : Array Oper} {rest : List Oper} {o : Oper} {a : Act} {Q : Exit → Act → World → Prop} (hgd : o.guard = none) (s x : Operand) (t : TypeId)
    (ho : o.op = .call { callee := .builtin .append, args := #[s, x], argTypes := #[t, t] })
    (base : Nat) (e : TypeId) (i : TypeInfo) (size : Nat) (ht : P.underlying t = some (.slice e)) (hi : P.info? e = some i)
    (v : Value) (n c : Nat) (xs : List Value) (hs : a.eval s = v) (hown : w.ownsRow base e size v n xs) (hx : a.eval x = .slice none 0 c)
    (h : wpList P ops Q rest (a.put o.dst v) w) : wpList P ops Q (o :: rest) a w := by
  refine wpList_plain hgd fun K hK => ?_
  have hrun : (Builtin.append_ #[t, t] o.type #[v, .slice none 0 c]).run P w = .ok v w := by
    rcases hown.2 with ⟨rfl, rfl⟩ | ⟨g, cap, cur, rfl, _, _, hnc, _⟩
    · simp [Builtin.append_, run_underlying ht, sizeOf, typeInfo, hi, Builtin.lenOf, Builtin.firstCells]
    · simp [Builtin.append_, run_underlying ht, sizeOf, typeInfo, hi, Builtin.lenOf, Builtin.firstCells, hnc, storeCells]
  unfold Oper.wp
  simp [execOp, ho, resolve, invoke, builtin, hs, hx, hrun, Result.andThen]
  exact hK _ _ h
/-- 'append(s, x...)', x operations that came in. -/
theorem wpList_append_opl {P : Program} {w : World} {ops : Array Oper} {rest : List Oper} {o : Oper} {a : Act} {Q : Exit → Act → World → Prop} (hgd : o.guard = none) (s x : Operand) (t e : TypeId)
    (ho : o.op = .call { callee := .builtin .append, args := #[s, x], argTypes := #[t, t] }) (he : ElemOK P t e (.agg #[.bool false, .int .i64 0, .int .i64 0]) 3 24)
    (base : Nat) (v : Value) (xs : List Opn) (hs : a.eval s = v) (hown : OwnO w base e v xs)
    (u : Value) (ys : List Opn) (hx : a.eval x = u) (hsrc : Opl w u ys) (hn : xs.length ≤ 1000000) (hm : ys.length ≤ 1000000) (hbase : base ≤ w.heap.size)
    (h : ∀ v' w', OwnO w' base e v' (xs ++ ys) → w.grownBy w' v.ownBlock → wpList P ops Q rest (a.put o.dst v') w') : wpList P ops Q (o :: rest) a w := by
  obtain ⟨i, hi, hz0, hz1, hz2⟩ := he.get
  have hfin : ∀ v' w', w'.ownsRow base e 3 v' (xs.length + ys.length) (flatO xs ++ flatO ys) → w.grownBy w' v.ownBlock → wpList P ops Q rest (a.put o.dst v') w' := fun v' w' h1 h2 => h v' w' (by unfold OwnO; rw [flatO_append, List.length_append]; exact h1) h2
  obtain ⟨A, c, hu, hl, hcell⟩ := hsrc
  cases hA : A with
  | none =>
    have h0 : ys = [] := by
      cases ys with
      | nil => rfl
      | cons y l =>
        obtain ⟨ad, h2, _⟩ := hcell (by simp)
        rw [hA] at h2; cases h2
    subst h0
    rw [hA] at hu
    refine wpList_append_void hgd s x t ho base e i 3 he.under hi v xs.length c _ hs hown (hx.trans hu) ?_
    exact h v w (by simpa using hown) ⟨rfl, rfl, rfl, Nat.le_refl _, fun _ _ _ => rfl⟩
  | some ad =>
    rw [hA] at hu
    refine wpList_append_own w hgd s x t ho base e i _ 3 24 he.under hi hz0 hz1 hz2 rfl (by decide) v xs.length _ hs hown ad ys.length c (flatO ys) (hx.trans hu) (flatO_len ys) ?_ (flatO_one ys) (by unfold maxLen; omega) (by omega) hbase (fun v' w' h1 h2 _ => hfin v' w' h1 h2)
    intro j x hj
    have hjl : j < ys.length * 3 := by rw [← flatO_len]; exact (List.getElem?_eq_some_iff.1 hj).1
    obtain ⟨ad2, h2, h3⟩ := hcell (by omega)
    rw [hA] at h2
    cases h2
    have hq : j / 3 < ys.length := by omega
    obtain ⟨g0, g1, g2⟩ := h3 (j / 3) hq
    obtain ⟨f0, f1, f2⟩ := flatO_at ys (j / 3) hq
    have h4 : j % 3 = 0 ∨ j % 3 = 1 ∨ j % 3 = 2 := by omega
    rcases h4 with h4 | h4 | h4
    · have e1 : j / 3 * 3 = j := by omega
      rw [e1] at g0 f0
      rw [f0] at hj; cases hj
      exact g0
    · have e1 : j / 3 * 3 + 1 = j := by omega
      rw [add_next _ _ _ (by omega), e1] at g1
      rw [e1] at f1
      rw [f1] at hj; cases hj
      exact g1
    · have e1 : j / 3 * 3 + 2 = j := by omega
      rw [add_next _ _ _ (by omega), e1] at g2
      rw [e1] at f2
      rw [f2] at hj; cases hj
      exact g2
theorem ch_of_grown_none {w w' : World} (h : w.grownBy w' none) : Ch nob w w' := ⟨h.os, h.tape, h.output, h.size, fun k hk _ => h.block k hk (by simp)⟩
/-! ### Rows of transactions of a call's own -/
def cellsT (hs : List Txr) (U : Nat → Value) : Nat → List Value
  | 0 => []
  | i + 1 => cellsT hs U i ++ [.int .i64 (hs.getD i txrZero).ses, .int .i64 (hs.getD i txrZero).beg, .int .i64 (hs.getD i txrZero).com, U i]
theorem cellsT_len (hs : List Txr) (U : Nat → Value) : ∀ i, (cellsT hs U i).length = i * 4
  | 0 => rfl
  | i + 1 => by unfold cellsT; rw [List.length_append, cellsT_len hs U i]; simp; omega
theorem cellsT_at (hs : List Txr) (U : Nat → Value) : ∀ i j, j < i → (cellsT hs U i)[j * 4]? = some (.int .i64 (hs.getD j txrZero).ses) ∧ (cellsT hs U i)[j * 4 + 1]? = some (.int .i64 (hs.getD j txrZero).beg) ∧ (cellsT hs U i)[j * 4 + 2]? = some (.int .i64 (hs.getD j txrZero).com) ∧ (cellsT hs U i)[j * 4 + 3]? = some (U j)
  | 0, j, h => by omega
  | i + 1, j, h => by
    unfold cellsT
    by_cases e : j = i
    · subst e
      have hl := cellsT_len hs U j
      refine ⟨?_, ?_, ?_, ?_⟩
      · rw [List.getElem?_append_right (by omega), show j * 4 - (cellsT hs U j).length = 0 by omega]; rfl
      · rw [List.getElem?_append_right (by omega), show j * 4 + 1 - (cellsT hs U j).length = 1 by omega]; rfl
      · rw [List.getElem?_append_right (by omega), show j * 4 + 2 - (cellsT hs U j).length = 2 by omega]; rfl
      · rw [List.getElem?_append_right (by omega), show j * 4 + 3 - (cellsT hs U j).length = 3 by omega]; rfl
    · have hl := cellsT_len hs U i
      have := cellsT_at hs U i j (by omega)
      rw [List.getElem?_append_left (by omega), List.getElem?_append_left (by omega), List.getElem?_append_left (by omega), List.getElem?_append_left (by omega)]
      exact this
theorem cellsT_same (hs : List Txr) {U V : Nat → Value} : ∀ {i}, (∀ j, j < i → U j = V j) → cellsT hs U i = cellsT hs V i
  | 0, _ => rfl
  | i + 1, h => by
    unfold cellsT
    rw [cellsT_same hs (fun j hj => h j (by omega)), h i (by omega)]
/-- A row of the call's own that holds the first n transactions, each with its operations in a row of its own. -/
structure OwnT (w : World) (base : Nat) (v : Value) (hs : List Txr) (U : Nat → Value) (n : Nat) : Prop where
  row : w.ownsRow base 118 4 v n (cellsT hs U n)
  ops : ∀ j, j < n → OwnO w base 121 (U j) (hs.getD j txrZero).ops
  apart : ∀ i j, i < n → j < n → i ≠ j → ∀ b, (U i).ownBlock = some b → (U j).ownBlock ≠ some b
theorem row_ne {w : World} {b1 b2 n m s1 s2 : Nat} {v u : Value} {xs ys : List Value} (h : w.ownsRow b1 118 s1 v n xs) (k : w.ownsRow b2 121 s2 u m ys) (b : Nat) (hb : v.ownBlock = some b) : u.ownBlock ≠ some b := by
  rcases h.2 with ⟨hv, _⟩ | ⟨g, _, _, hv, _, hg, _⟩
  · rw [hv] at hb; cases hb
  · rcases k.2 with ⟨hu, _⟩ | ⟨g2, _, _, hu, _, hg2, _⟩
    · rw [hu]; intro e; cases e
    · rw [hv] at hb
      rw [hu]
      intro e
      have e1 : g = b := by simpa [Value.ownBlock] using hb
      have e2 : g2 = b := by simpa [Value.ownBlock] using e
      rw [e1] at hg
      rw [e2, hg] at hg2
      simp at hg2
theorem OwnT.grown {w w' : World} {base : Nat} {v : Value} {hs : List Txr} {U : Nat → Value} {n : Nat} {row : Option Nat} (h : OwnT w base v hs U n) (hg : w.grownBy w' row) (hne : ∀ b, row = some b → b < base ∨ w.heap.size ≤ b) : OwnT w' base v hs U n := by
  refine ⟨h.row.kept hg ?_, fun j hj => (h.ops j hj).grown hg ?_, h.apart⟩
  · cases hv : v.ownBlock with
    | none => exact .inl rfl
    | some b =>
      refine .inr fun e => ?_
      have := h.row.lt b hv
      have := hne b e.symm
      omega
  · intro b hb e
    have := (h.ops j hj).ge b hb
    have := hne b e
    omega
theorem OwnT.keep {w w' : World} {base : Nat} {v : Value} {hs : List Txr} {U : Nat → Value} {n : Nat} (h : OwnT w base v hs U n) (hc : Ch nob w w') : OwnT w' base v hs U n := h.grown (grown_of_ch hc none) (fun b e => by cases e)
theorem OwnT.off {w w' : World} {base g : Nat} {v : Value} {hs : List Txr} {U : Nat → Value} {n : Nat} (h : OwnT w base v hs U n) (hc : Ch (· = g) w w') (hg : g < base ∨ w.heap.size ≤ g) : OwnT w' base v hs U n := h.grown (grown_of_ch1 hc) (fun b e => by cases e; exact hg)
theorem OwnT.txns {w : World} {base : Nat} {v : Value} {hs : List Txr} {U : Nat → Value} (h : OwnT w base v hs U hs.length) : Txns w v hs := by
  have h0 := h.row.2
  rcases h0 with ⟨hv, hn⟩ | ⟨g, cap, cur, hv, hb, hg, hle2, hcap, hsz, htake⟩
  · exact ⟨none, 0, by rw [hv, hn], by omega, fun h => by omega⟩
  · refine ⟨_, _, hv, ⟨hle2, by unfold maxLen at hcap; omega⟩, fun h0 => ⟨_, rfl, fun j hj => ⟨U j, ?_⟩⟩⟩
    have hc := World.ownsRow.cells h.row (g := g) (by rw [hv]; rfl)
    have hf := cellsT_at hs U _ j hj
    rw [add_next _ _ _ (by omega), add_next _ _ _ (by omega), add_next _ _ _ (by omega)]
    exact ⟨hc _ _ hf.1, hc _ _ hf.2.1, hc _ _ hf.2.2.1, hc _ _ hf.2.2.2, (h.ops j hj).opl⟩
theorem OwnT.snoc {w w' : World} {base b1 i : Nat} {y y' u : Value} {hs : List Txr} {U : Nat → Value} {t : Txr} (h : OwnT w base y hs U i) (hx : hs.getD i txrZero = t) (hu : OwnO w b1 121 u t.ops) (hb : ∀ j, j < i → ∀ b, (U j).ownBlock = some b → b < b1) (hbase : base ≤ b1)
    (hr : w'.ownsRow base 118 4 y' (i + 1) (cellsT hs U i ++ [.int .i64 t.ses, .int .i64 t.beg, .int .i64 t.com, u])) (hg : w.grownBy w' y.ownBlock) : OwnT w' base y' hs (fun j => if j = i then u else U j) (i + 1) := by
  have hlt : ∀ j, j < i → (if j = i then u else U j) = U j := fun j hj => if_neg (by omega)
  refine ⟨?_, fun j hj => ?_, fun j k hj hk hne b hb1 => ?_⟩
  · show w'.ownsRow _ _ _ _ _ (cellsT hs (fun j => if j = i then u else U j) i ++ [_, _, _, (if i = i then u else U i)])
    rw [cellsT_same hs (V := U) (fun j hj => hlt j hj), if_pos rfl, hx]
    exact hr
  · by_cases e : j = i
    · subst e
      rw [if_pos rfl, hx]
      exact (hu.grown hg (fun b h1 h2 => row_ne h.row hu b h2 h1)).base hbase
    · rw [if_neg e]
      exact (h.ops j (by omega)).grown hg (fun b h1 h2 => row_ne h.row (h.ops j (by omega)) b h2 h1)
  · have hb1 : (if j = i then u else U j).ownBlock = some b := hb1
    show (if k = i then u else U k).ownBlock ≠ some b
    by_cases e1 : j = i
    · rw [if_pos e1] at hb1
      by_cases e2 : k = i
      · omega
      · rw [if_neg e2]
        intro h2
        have := hb k (by omega) b h2
        have := (hu.ge b hb1).1
        omega
    · rw [if_neg e1] at hb1
      by_cases e2 : k = i
      · rw [if_pos e2]
        intro h2
        have := hb j (by omega) b hb1
        have := (hu.ge b h2).1
        omega
      · rw [if_neg e2]
        exact h.apart j k (by omega) (by omega) hne b hb1
theorem elem_txn : ElemOK Tryd.prog 22 118 (.agg #[.int .i64 0, .int .i64 0, .int .i64 0, .slice none 0 0]) 4 48 := ⟨by kernel_rfl, by kernel_rfl⟩
/-- 'make([]Txn, 0, c)'. -/
theorem wpList_make_txn {w : World} {ops : Array Oper} {rest : List Oper} {o : Oper} {a : Act} {Q : Exit → Act → World → Prop} (hgd : o.guard = none) (l c : Operand) (ho : o.op = Op.makeSlice 22 l c)
    (base : Nat) (n : Nat) (hl : a.eval l = .int .i64 0) (hc : a.eval c = .int .i64 n) (hn : n ≤ 1000000) (hbase : base ≤ w.heap.size)
    (h : ∀ w', w'.ownsRow base 118 4 (.slice (some ⟨w.heap.size, 0, none⟩) 0 n) 0 [] → Ch nob w w' → wpList Tryd.prog ops Q rest (a.put o.dst (.slice (some ⟨w.heap.size, 0, none⟩) 0 n)) w') : wpList Tryd.prog ops Q (o :: rest) a w := by
  obtain ⟨i, hi, hz0, hz1, hz2⟩ := elem_txn.get
  exact wpList_make_own w hgd l c 22 ho base 118 i _ 4 elem_txn.under hi hz0 hz1 .i64 .i64 n n hl hc rfl (by rw [hz2]; omega) (by unfold maxLen; omega) hbase (fun w' h1 h2 => h w' h1 ⟨h2.os, h2.tape, h2.output, h2.size, fun k hk _ => h2.block k hk (by simp)⟩)
/-- 'append(s, t)', t a transaction. -/
theorem wpList_append_txn {w : World} {ops : Array Oper} {rest : List Oper} {o : Oper} {a : Act} {Q : Exit → Act → World → Prop} (hgd : o.guard = none) (s x : Operand)
    (ho : o.op = .call { callee := .builtin .append, args := #[s, x], argTypes := #[22, 22] })
    (base : Nat) (v : Value) (n : Nat) (xs : List Value) (hs : a.eval s = v) (hown : w.ownsRow base 118 4 v n xs)
    (g : Nat) (p q r : Int) (A : Option Addr) (l c : Nat) (T : TypeId) (hx : a.eval x = .slice (some ⟨g, 0, none⟩) 1 1) (hb : Blk w g #[.int .i64 p, .int .i64 q, .int .i64 r, .slice A l c] T) (hn : n ≤ 1000000) (hbase : base ≤ w.heap.size)
    (h : ∀ v' w', w'.ownsRow base 118 4 v' (n + 1) (xs ++ [.int .i64 p, .int .i64 q, .int .i64 r, .slice A l c]) → w.grownBy w' v.ownBlock → wpList Tryd.prog ops Q rest (a.put o.dst v') w') : wpList Tryd.prog ops Q (o :: rest) a w :=
  wpList_append1 hgd s x 22 118 ho _ 4 48 elem_txn rfl (by decide) (by decide) base v n xs hs hown g _ T hx hb rfl (by intro u hu; simp at hu; rcases hu with rfl | rfl | rfl | rfl <;> rfl) (by omega) hbase h
/-- What a copy is. -/
def RetCopy (w : World) (hs : List Txr) (e : Ending) (w' : World) : Prop := ∃ v U, e = .returned v ∧ OwnT w' w.heap.size v hs U hs.length ∧ Ch nob w w'
end Go.Proofs.YtlhfpnkfapghoaaDoor
end

section
/- Are two histories one (history.Same)? No condition but each theorem's own. -/
set_option linter.unusedVariables false
set_option linter.unusedSimpArgs false
namespace Go.Proofs.YtlhfpnkfapghoaaDoor
open Go.RowKit Go.Maps

theorem list_ext {α : Type} {d : α} {a b : List α} (h : a.length = b.length) (h2 : ∀ i, i < a.length → a.getD i d = b.getD i d) : a = b := by
  apply List.ext_getElem h
  intro i h3 h4
  have := h2 i h3
  rw [List.getD_eq_getElem?_getD, List.getD_eq_getElem?_getD, List.getElem?_eq_getElem h3, List.getElem?_eq_getElem h4] at this
  exact this
theorem txr_ext {a b : Txr} (h0 : a.ses = b.ses) (h1 : a.beg = b.beg) (h2 : a.com = b.com) (h3 : a.ops = b.ops) : a = b := by
  obtain ⟨_, _, _, _⟩ := a; obtain ⟨_, _, _, _⟩ := b
  simp at h0 h1 h2 h3
  rw [h0, h1, h2, h3]
/-- What Same hands back. -/
def RetSame (w : World) (a b : List Txr) (e : Ending) (w' : World) : Prop := ∃ q : Bool, e = .returned (.bool q) ∧ (q = true ↔ a = b) ∧ Ch nob w w'
theorem RetSame.no {w w' : World} {a b : List Txr} (h : a ≠ b) (hc : Ch nob w w') : RetSame w a b (.returned (.bool false)) w' := ⟨false, rfl, ⟨fun h => (by cases h), fun e => absurd e h⟩, hc⟩
theorem RetSame.yes {w w' : World} {a b : List Txr} (h : a = b) (hc : Ch nob w w') : RetSame w a b (.returned (.bool true)) w' := ⟨true, rfl, ⟨fun _ => h, fun _ => rfl⟩, hc⟩
end Go.Proofs.YtlhfpnkfapghoaaDoor
end

section
/- Regions that draw their order, whose operations only read and call what changes nothing old, but for those at the end that wait for all: one walk in the order of the text. No condition. -/
set_option linter.unusedVariables false
set_option linter.unusedSimpArgs false
namespace Go.Proofs.YtlhfpnkfapghoaaDoor
open Go.RowKit

section
variable {P : Program} {ops : Array Oper} {md : Region.Mode} {C : World → Prop}
/-- Of the first n operations f come up, in any order; then L. -/
def AnyHead (P : Program) (md : Region.Mode) (ops : Array Oper) (C : World → Prop) (n : Nat) (L : Array Bool → Act → Prop) : Nat → Array Bool → Act → Prop
  | 0, listed, a => L listed a
  | f + 1, listed, a => Region.ready md ops listed ≠ [] ∧ ∀ i ∈ Region.ready md ops listed, i < n ∧ qOp P ops C i (AnyHead P md ops C n L f (listed.setIfInBounds i true)) a
theorem any_of_head {n g : Nat} {L : Array Bool → Act → Prop} {Q' : Exit → Act → World → Prop} (hL : ∀ listed a w, C w → L listed a → wpAny P md ops Q' g listed a w) :
    ∀ (f : Nat) (listed : Array Bool) (a : Act) (w : World), C w → AnyHead P md ops C n L f listed a → wpAny P md ops Q' (f + g) listed a w := by
  intro f
  induction f with
  | zero =>
    intro listed a w hw h
    rw [Nat.zero_add]
    exact hL _ _ _ hw h
  | succ f ih =>
    intro listed a w hw h
    have e : f + 1 + g = (f + g) + 1 := by omega
    rw [e]
    exact ⟨fun h0 => absurd h0 h.1, fun i hi => wpOp_of_qOp hw (fun a' w' hw' h' => ih _ a' w' hw' h') (h.2 i hi).2⟩
/-- What comes up first in the text may be taken first. -/
theorem head_first {n i : Nat} {oi : Oper} {v : Value} {L : Array Bool → Act → Prop} (hi : ops[i]? = some oi) (hsel : ∀ (j : Nat) (o : Oper) cs b, ops[j]? = some o → o.op ≠ .select cs b)
    (hs : Region.sinkB md ops n = true) (hc : Region.chainB md ops n = true) (hn : n < ops.size) (hin : i < n)
    (hdone : ∀ listed a, L listed a → ∀ j ∈ Region.ready md ops listed, n ≤ j) :
    ∀ (f : Nat) (listed : Array Bool) (a : Act), HeadInv md ops n listed →
      (∀ j oj, ops[j]? = some oj → j ≠ i → listed.getD j true = false → (∀ e ∈ oj.after, Region.binds md e = true → e.on ≠ i) → oi.apart ops oj = true) →
      i ∈ Region.ready md ops listed → YieldsIn P ops C oi v a →
      AnyHead P md ops C n L f (listed.setIfInBounds i true) (a.put oi.dst v) → AnyHead P md ops C n L (f + 1) listed a := by
  intro f
  induction f with
  | zero =>
    intro listed a inv _ hr hy H
    refine ⟨fun h => (by rw [h] at hr; cases hr), fun j hj => ?_⟩
    have hjn : j < n := Nat.lt_of_not_le fun h => tail_waits hs hc hn inv _ i rfl hin (mem_ready.1 hr).1 j h hj
    refine ⟨hjn, ?_⟩
    by_cases hji : j = i
    · subst hji
      exact hy.qOp hi H
    · have := hdone _ _ H j (ready_mono hj hji)
      omega
  | succ f ih =>
    intro listed a inv hfree hr hy H
    refine ⟨fun h => (by rw [h] at hr; cases hr), fun j hj => ?_⟩
    have hjn : j < n := Nat.lt_of_not_le fun h => tail_waits hs hc hn inv _ i rfl hin (mem_ready.1 hr).1 j h hj
    refine ⟨hjn, ?_⟩
    by_cases hji : j = i
    · subst hji
      exact hy.qOp hi H
    · obtain ⟨hjun, oj, hoj, hall⟩ := mem_ready.1 hj
      have hnot : ∀ e ∈ oj.after, Region.binds md e = true → e.on ≠ i := fun e he hb heq => by
        have h1 := hall e he hb
        rw [heq, getD_both (mem_ready.1 hr).1] at h1
        cases h1
      have h2 := qOp_put hoj (hfree j oj hoj hji hjun hnot) (fun cs b => hsel i oi cs b hi) (fun cs b => hsel j oj cs b hoj) hy (H.2 j (ready_mono hj hji)).2
      refine qOp_mono (fun a' h3 => ih (listed.setIfInBounds j true) a' (inv.set hj hjn) (fun k ok hk hki hun hno => ?_) (ready_mono hr (Ne.symm hji)) h3.1 ?_) h2
      · refine hfree k ok hk hki ?_ hno
        by_cases hjk : j = k
        · subst hjk; exact hjun
        · rwa [getD_set_ne true hjk] at hun
      · rw [Array.setIfInBounds_comm _ _ hji]
        exact h3.2
theorem head_lex {n g : Nat} {Lq : Act → Prop} (hsel : Region.noSelect ops = true) (hs : Region.sinkB md ops n = true) (hc : Region.chainB md ops n = true) (hn : n < ops.size) :
    ∀ (l : List Oper) (k : Nat) (listed : Array Bool) (a : Act), (∀ j, j < l.length → l[j]? = ops[k + j]?) → k + l.length = n → HeadInv md ops n listed →
    Region.lexHead md ops g l.length k listed = true → wpQuiet P ops C Lq l a →
    AnyHead P md ops C n (fun listed' a' => Region.seqB md ops g n listed' = true ∧ Lq a') l.length listed a := by
  intro l
  induction l with
  | nil =>
    intro k listed a _ hk inv hB h
    obtain rfl : k = n := by simpa using hk
    exact ⟨by simpa [Region.lexHead] using hB, h⟩
  | cons o l ih =>
    intro k listed a hl hk inv hB h
    have h0 : ops[k]? = some o := by simpa using (hl 0 (by simp)).symm
    simp only [List.length_cons, Region.lexHead, Bool.and_eq_true] at hB hk
    have hkn : k < n := by omega
    have hr : k ∈ Region.ready md ops listed := by simpa using hB.1.1
    have hst : qOp P ops C k (wpQuiet P ops C Lq l) a := by
      unfold qOp
      simp only [h0]
      exact h
    obtain ⟨v, hy, hK⟩ := yieldsIn_of_qOp h0 hst
    exact head_first h0 (Region.noSelect_spec hsel) hs hc hn hkn (fun listed' a' hL => seqB_ready hL.1) l.length listed a inv (Region.free_spec h0 hB.1.2) hr hy
      (ih (k + 1) _ _ (fun j hj => by have := hl (j + 1) (by simp; omega); simpa [Nat.add_assoc, Nat.add_comm 1 j] using this) (by omega) (inv.set hr hkn) hB.2 hK)
theorem wp_region_quiet_tail {id : Nat} {Q : Exit → Act → World → Prop} {a : Act} {w : World} {l : List Oper} (n : Nat) (hm : P.follows .mixedOrders = true) (hB : Region.lexTailB .any l.toArray n = true) (hC : C w.drew)
    (h : wpQuiet P l.toArray C (fun a' => ∀ w', C w' → wpList P l.toArray Q (l.drop n) a' w') (l.take n) a) : (Code.region id l.toArray true).wp P Q a w := by
  simp only [Region.lexTailB, Bool.and_eq_true, decide_eq_true_eq] at hB
  obtain ⟨⟨⟨⟨hsel, hn⟩, hs⟩, hc⟩, hlex⟩ := hB
  have hn' : n < l.length := by simpa using hn
  have htl : (l.take n).length = n := by rw [List.length_take]; omega
  have hdl : (l.drop n).length = l.toArray.size - n := by simp
  have inv0 : HeadInv .any l.toArray n (Array.replicate l.toArray.size false) :=
    ⟨by simp, fun j oj _ hl => (by rw [getD_replicate_false] at hl; cases hl), fun t _ ht => getD_in (by simpa using ht) (getD_replicate_false _ _)⟩
  have H := head_lex (P := P) (C := C) (md := .any) (g := l.toArray.size - n) hsel hs hc hn (l.take n) 0 _ a (fun j hj => by
    have hj' : j < n := by rw [htl] at hj; exact hj
    simp [hj']) (by simpa using htl) inv0 (by rw [htl]; exact hlex) h
  refine wp_region_any hm ?_
  have := any_of_head (Q' := Q) (g := l.toArray.size - n) (fun listed a' w' hw' hL => by
    have := wpAny_of_seq (md := .any) (Q' := Q) (l.drop n) n listed a' w' (fun j => by simp [List.getElem?_drop]) (by rw [hdl]; exact hL.1) (hL.2 w' hw')
    rwa [hdl] at this) _ _ _ _ hC H
  rw [htl, show n + (l.toArray.size - n) = l.toArray.size by omega] at this
  exact this
end
/-- At the class of worlds in which nothing old has changed. -/
theorem wp_region_ch_tail {P : Program} {id : Nat} {Q : Exit → Act → World → Prop} {a : Act} {w w0 : World} {l : List Oper} (n : Nat) (hm : P.follows .mixedOrders = true) (hB : Region.lexTailB .any l.toArray n = true) (hc : Ch nob w0 w)
    (h : wpQuiet P l.toArray (fun w' => ∃ u : Ext w0, w' = u.val) (fun a' => ∀ w', (∃ u : Ext w0, w' = u.val) → wpList P l.toArray Q (l.drop n) a' w') (l.take n) a) : (Code.region id l.toArray true).wp P Q a w :=
  wp_region_quiet_tail n hm hB ⟨⟨_, hc.drew⟩, rfl⟩ h
end Go.Proofs.YtlhfpnkfapghoaaDoor
end

section
/- The law HistoryCopies: a copy is the same, and apart. No condition but each theorem's own. -/
set_option linter.unusedVariables false
set_option linter.unusedSimpArgs false
namespace Go.Proofs.YtlhfpnkfapghoaaDoor
open Go.RowKit Go.Maps

theorem own_add (g k : Nat) : (⟨g, 0, none⟩ : Addr).add k = ⟨g, k, none⟩ := by unfold Addr.add; split <;> simp_all
/-- A row of transactions, from its cells. -/
theorem txns_mk {w : World} {g n cap : Nat} {hs : List Txr} {U : Nat → Value} (hlen : hs.length = n) (hcap : n ≤ cap ∧ n ≤ 9223372036854775807)
    (h : ∀ j, j < n → w.cell? ⟨g, j * 4, none⟩ = some (.int .i64 (hs.getD j txrZero).ses) ∧ w.cell? ⟨g, j * 4 + 1, none⟩ = some (.int .i64 (hs.getD j txrZero).beg) ∧ w.cell? ⟨g, j * 4 + 2, none⟩ = some (.int .i64 (hs.getD j txrZero).com) ∧ w.cell? ⟨g, j * 4 + 3, none⟩ = some (U j) ∧ Opl w (U j) (hs.getD j txrZero).ops) : Txns w (.slice (some ⟨g, 0, none⟩) n cap) hs := by
  subst hlen
  refine ⟨_, _, rfl, hcap, fun _ => ⟨_, rfl, fun j hj => ⟨U j, ?_⟩⟩⟩
  rw [own_add]
  exact h j hj
theorem getD_setT (hs : List Txr) (t : Txr) (at_ j : Nat) (h : at_ < hs.length) : (hs.set at_ t).getD j txrZero = if j = at_ then t else hs.getD j txrZero := by
  rw [List.getD_eq_getElem?_getD, List.getElem?_set]
  by_cases e : at_ = j
  · subst e; simp [h]
  · rw [if_neg e, if_neg (fun h => e h.symm), List.getD_eq_getElem?_getD]
theorem set_ne {hs : List Txr} {t : Txr} {at_ : Nat} (h : at_ < hs.length) (hne : t ≠ hs.getD at_ txrZero) : hs.set at_ t ≠ hs := fun e => hne (by
  have := getD_setT hs t at_ at_ h
  rw [if_pos rfl, e] at this
  exact this.symm)
theorem wrap_ne {x : Int} (h : (Lit.int .i64 x).wf = true) : wrap64 (x + 1) ≠ x := by
  have h2 := h
  simp [Lit.wf, IntKind.min, IntKind.max, IntKind.signed, IntKind.bits] at h2
  unfold wrap64
  omega
theorem getD_setO (xs : List Opn) (x : Opn) (at_ j : Nat) (h : at_ < xs.length) : (xs.set at_ x).getD j opZero = if j = at_ then x else xs.getD j opZero := by
  rw [List.getD_eq_getElem?_getD, List.getElem?_set]
  by_cases e : at_ = j
  · subst e; simp [h]
  · rw [if_neg e, if_neg (fun h => e h.symm), List.getD_eq_getElem?_getD]
/-- The cells of a row of transactions. -/
theorem OwnT.cells {w : World} {base g cap n : Nat} {hs : List Txr} {U : Nat → Value} (h : OwnT w base (.slice (some ⟨g, 0, none⟩) n cap) hs U n) (j : Nat) (hj : j < n) : w.cell? ⟨g, j * 4, none⟩ = some (.int .i64 (hs.getD j txrZero).ses) ∧ w.cell? ⟨g, j * 4 + 1, none⟩ = some (.int .i64 (hs.getD j txrZero).beg) ∧ w.cell? ⟨g, j * 4 + 2, none⟩ = some (.int .i64 (hs.getD j txrZero).com) ∧ w.cell? ⟨g, j * 4 + 3, none⟩ = some (U j) := by
  have hf := cellsT_at hs U n j hj
  rw [World.ownsRow.cellAt h.row _ (by omega), World.ownsRow.cellAt h.row _ (by omega), World.ownsRow.cellAt h.row _ (by omega), World.ownsRow.cellAt h.row _ (by omega)]
  exact hf
/-- One cell of a row is written: the cells. -/
theorem cell_put {w : World} {g j k : Nat} {u v : Value} (h : w.cell? ⟨g, j, none⟩ = some v) : (w.setCell ⟨g, k, none⟩ u).cell? ⟨g, j, none⟩ = some (if j = k then u else v) := by
  unfold World.cell? at h ⊢
  unfold World.setCell
  simp only [Array.getElem?_modify, if_true] at h ⊢
  cases e : w.heap[g]? with
  | none => rw [e] at h; simp at h
  | some o =>
    rw [e] at h
    cases o with
    | cells cs T fr =>
      simp at h ⊢
      by_cases e2 : j = k
      · subst e2
        have : j < cs.size := (Array.getElem?_eq_some_iff.1 h).1
        simp [this]
      · simp [e2, Array.getElem?_setIfInBounds, Ne.symm e2, h]
    | _ => simp at h
/-- A whole number of a transaction of an own row is written. -/
theorem OwnT.put_int {w : World} {base g cap n at_ d : Nat} {hs : List Txr} {U : Nat → Value} {t : Txr} {z : Int} (h : OwnT w base (.slice (some ⟨g, 0, none⟩) n cap) hs U n) (hn : hs.length = n) (hat : at_ < n) (hd : d < 3)
    (ht0 : t.ops = (hs.getD at_ txrZero).ops) (h0 : t.ses = if d = 0 then z else (hs.getD at_ txrZero).ses) (h1 : t.beg = if d = 1 then z else (hs.getD at_ txrZero).beg) (h2 : t.com = if d = 2 then z else (hs.getD at_ txrZero).com) : Txns (w.setCell ⟨g, at_ * 4 + d, none⟩ (.int .i64 z)) (.slice (some ⟨g, 0, none⟩) n cap) (hs.set at_ t) := by
  have hx := h.row.2
  have hcap : n ≤ cap ∧ n ≤ 9223372036854775807 := by
    obtain ⟨_, h5, _⟩ := (hn ▸ h).txns.at
    omega
  refine txns_mk (U := U) (by rw [List.length_set]; exact hn) hcap fun j hj => ?_
  have hc := h.cells j hj
  have hch : Ch (· = g) w (w.setCell ⟨g, at_ * 4 + d, none⟩ (.int .i64 z)) := (Ch.refl _ _).setCell _ _ (fun _ => rfl)
  have hop := (h.ops j hj).off hch (fun b hb e => row_ne h.row (h.ops j hj) g rfl (by rw [hb, e]))
  rw [getD_setT _ _ _ _ (by omega)]
  rw [cell_put hc.1, cell_put hc.2.1, cell_put hc.2.2.1, cell_put hc.2.2.2]
  rw [if_neg (show ¬ j * 4 + 3 = at_ * 4 + d by omega)]
  by_cases e : j = at_
  · subst e
    rw [if_pos rfl, h0, h1, h2, ht0]
    refine ⟨?_, ?_, ?_, rfl, hop.opl⟩
    · by_cases e0 : d = 0
      · rw [if_pos (by omega), if_pos e0]
      · rw [if_neg (by omega), if_neg e0]
    · by_cases e0 : d = 1
      · rw [if_pos (by omega), if_pos e0]
      · rw [if_neg (by omega), if_neg e0]
    · by_cases e0 : d = 2
      · rw [if_pos (by omega), if_pos e0]
      · rw [if_neg (by omega), if_neg e0]
  · rw [if_neg e, if_neg (by omega), if_neg (by omega), if_neg (by omega)]
    exact ⟨rfl, rfl, rfl, rfl, hop.opl⟩
theorem OwnT.put_ops {w w' : World} {base g cap n at_ : Nat} {hs : List Txr} {U : Nat → Value} {t : Txr} {u : Value} (h : OwnT w base (.slice (some ⟨g, 0, none⟩) n cap) hs U n) (hn : hs.length = n) (hat : at_ < n) (hg : w.grownBy w' (U at_).ownBlock) (hu : OwnO w' base 121 u t.ops)
    (ht : t = { hs.getD at_ txrZero with ops := t.ops }) : Txns (w'.setCell ⟨g, at_ * 4 + 3, none⟩ u) (.slice (some ⟨g, 0, none⟩) n cap) (hs.set at_ t) := by
  have hcap : n ≤ cap ∧ n ≤ 9223372036854775807 := by
    obtain ⟨_, h5, _⟩ := (hn ▸ h).txns.at
    omega
  have hr := h.row.kept hg (.inr (fun e => row_ne h.row (h.ops at_ hat) g rfl e.symm))
  have hch : Ch (· = g) w' (w'.setCell ⟨g, at_ * 4 + 3, none⟩ u) := (Ch.refl _ _).setCell _ _ (fun _ => rfl)
  refine txns_mk (U := fun j => if j = at_ then u else U j) (by rw [List.length_set]; exact hn) hcap fun j hj => ?_
  have hf := cellsT_at hs U n j hj
  have g0 := (World.ownsRow.cellAt hr (j * 4) (by omega)).trans hf.1
  have g1 := (World.ownsRow.cellAt hr (j * 4 + 1) (by omega)).trans hf.2.1
  have g2 := (World.ownsRow.cellAt hr (j * 4 + 2) (by omega)).trans hf.2.2.1
  have g3 := (World.ownsRow.cellAt hr (j * 4 + 3) (by omega)).trans hf.2.2.2
  rw [getD_setT _ _ _ _ (by omega), cell_put g0, cell_put g1, cell_put g2, cell_put g3]
  rw [if_neg (show ¬ j * 4 = at_ * 4 + 3 by omega), if_neg (show ¬ j * 4 + 1 = at_ * 4 + 3 by omega), if_neg (show ¬ j * 4 + 2 = at_ * 4 + 3 by omega)]
  by_cases e : j = at_
  · subst e
    simp only [if_true]
    have hv := (hu.off hch (fun b hb e => row_ne hr hu g rfl (by rw [hb, e]))).opl
    obtain ⟨t0, t1, t2, t3⟩ := t
    cases ht
    refine ⟨?_, ?_, ?_, ?_, hv⟩ <;> first | trivial | rfl
  · simp only [if_neg e]
    rw [if_neg (by omega)]
    have ho := (h.ops j hj).grown hg (fun b hb e2 => h.apart j at_ hj hat e b hb e2)
    refine ⟨?_, ?_, ?_, ?_, (ho.off hch (fun b hb e2 => row_ne hr ho g rfl (by rw [hb, e2]))).opl⟩ <;> first | trivial | rfl
theorem OwnT.put_val {w : World} {base g cap n at_ gu l cu p : Nat} {hs : List Txr} {U : Nat → Value} {t : Txr} {x : Opn} {z : Int} (h : OwnT w base (.slice (some ⟨g, 0, none⟩) n cap) hs U n) (hn : hs.length = n) (hat : at_ < n) (hU : U at_ = .slice (some ⟨gu, 0, none⟩) l cu)
    (hl : (hs.getD at_ txrZero).ops.length = l) (hp : p < l) (hx : (hs.getD at_ txrZero).ops.getD p opZero = x) (ht : t = { hs.getD at_ txrZero with ops := (hs.getD at_ txrZero).ops.set p ⟨x.wr, x.key, z⟩ }) : Txns (w.setCell ⟨gu, p * 3 + 2, none⟩ (.int .i64 z)) (.slice (some ⟨g, 0, none⟩) n cap) (hs.set at_ t) := by
  have hcap : n ≤ cap ∧ n ≤ 9223372036854775807 := by
    obtain ⟨_, h5, _⟩ := (hn ▸ h).txns.at
    omega
  have hch : Ch (· = gu) w (w.setCell ⟨gu, p * 3 + 2, none⟩ (.int .i64 z)) := (Ch.refl _ _).setCell _ _ (fun _ => rfl)
  have hne : g ≠ gu := fun e => row_ne h.row (h.ops at_ hat) g rfl (by rw [hU, e]; rfl)
  have hr := h.row.kept (grown_of_ch1 hch) (.inr (by simp [Value.ownBlock]; exact hne))
  refine txns_mk (U := U) (by rw [List.length_set]; exact hn) hcap fun j hj => ?_
  have hf := cellsT_at hs U n j hj
  have g0 := (World.ownsRow.cellAt hr (j * 4) (by omega)).trans hf.1
  have g1 := (World.ownsRow.cellAt hr (j * 4 + 1) (by omega)).trans hf.2.1
  have g2 := (World.ownsRow.cellAt hr (j * 4 + 2) (by omega)).trans hf.2.2.1
  have g3 := (World.ownsRow.cellAt hr (j * 4 + 3) (by omega)).trans hf.2.2.2
  rw [getD_setT _ _ _ _ (by omega)]
  by_cases e : j = at_
  · subst e
    rw [if_pos rfl]
    have hrow := h.ops j hj
    obtain ⟨xs, hxs⟩ : ∃ xs, (hs.getD j txrZero).ops = xs := ⟨_, rfl⟩
    rw [hxs] at hl hx ht hrow
    rw [hU] at hrow
    have hop : Opl (w.setCell ⟨gu, p * 3 + 2, none⟩ (.int .i64 z)) (U j) (xs.set p ⟨x.wr, x.key, z⟩) := by
      rw [hU]
      subst hl
      refine ⟨_, _, (by rw [List.length_set]), (by rw [List.length_set]; exact hrow.opl.at.2.1), fun _ => ⟨_, rfl, fun i hi => ?_⟩⟩
      rw [List.length_set] at hi
      have hfi := flatO_at xs i hi
      have k0 := (World.ownsRow.cellAt hrow (i * 3) (by omega)).trans hfi.1
      have k1 := (World.ownsRow.cellAt hrow (i * 3 + 1) (by omega)).trans hfi.2.1
      have k2 := (World.ownsRow.cellAt hrow (i * 3 + 2) (by omega)).trans hfi.2.2
      rw [own_add, getD_setO _ _ _ _ hp]
      show _ ∧ (w.setCell _ _).cell? ⟨gu, i * 3 + 1, none⟩ = _ ∧ (w.setCell _ _).cell? ⟨gu, i * 3 + 2, none⟩ = _
      rw [cell_put k0, cell_put k1, cell_put k2]
      rw [if_neg (show ¬ i * 3 = p * 3 + 2 by omega), if_neg (show ¬ i * 3 + 1 = p * 3 + 2 by omega)]
      by_cases e2 : i = p
      · subst e2
        rw [if_pos rfl, if_pos rfl, hx]
        exact ⟨rfl, rfl, rfl⟩
      · rw [if_neg e2, if_neg (by omega)]
        refine ⟨?_, ?_, ?_⟩ <;> first | trivial | rfl
    rw [ht, g0, g1, g2, g3]
    refine ⟨?_, ?_, ?_, ?_, hop⟩ <;> first | trivial | rfl
  · rw [if_neg e, g0, g1, g2, g3]
    have ho := (h.ops j hj).off hch (fun b hb e2 => h.apart j at_ hj hat e b hb (by rw [hU, e2]; rfl))
    refine ⟨?_, ?_, ?_, ?_, ho.opl⟩ <;> first | trivial | rfl
theorem txns_take {w : World} {A : Option Addr} {n cp : Nat} {hs : List Txr} (h : Txns w (.slice A n cp) hs) (m : Nat) (hm : m ≤ n) : Txns w (.slice A m cp) (hs.take m) := by
  obtain ⟨hn, hl, hx⟩ := h.at
  have hlen : (hs.take m).length = m := by rw [List.length_take]; omega
  refine ⟨A, cp, by rw [hlen], by rw [hlen]; omega, fun h0 => ?_⟩
  rw [hlen] at h0 ⊢
  obtain ⟨ad, _, hA, _⟩ := hx 0 (by omega)
  refine ⟨ad, hA, fun j hj => ?_⟩
  obtain ⟨ad2, u, hA2, h2⟩ := hx j (by omega)
  rw [hA] at hA2
  cases hA2
  refine ⟨u, ?_⟩
  rw [List.getD_eq_getElem?_getD, List.getElem?_take, if_pos hj, ← List.getD_eq_getElem?_getD]
  exact h2
end Go.Proofs.YtlhfpnkfapghoaaDoor
end

section
/- Plain numbers: what twelve levels ask, and what follows of that, as six bits; their names. No condition. -/
set_option linter.unusedVariables false
set_option linter.unusedSimpArgs false
namespace Go.Proofs.YtlhfpnkfapghoaaDoor
open Go.RowKit

/-! ### Six bits -/
theorem bits_toInt_and (x y : Int) : bits .and .i64 x y = IntKind.i64.wrap (((x % 18446744073709551616).toNat &&& (y % 18446744073709551616).toNat : Nat) : Int) := by
  simp only [bits, BitVec.toNat_and, BitVec.toNat_ofInt]
  rfl
theorem bits_toInt_or (x y : Int) : bits .or .i64 x y = IntKind.i64.wrap (((x % 18446744073709551616).toNat ||| (y % 18446744073709551616).toNat : Nat) : Int) := by
  simp only [bits, BitVec.toNat_or, BitVec.toNat_ofInt]
  rfl
/-- An int's low six bits. -/
def six (x : Int) : Nat := (x % 64).toNat
theorem six_lt (x : Int) : six x < 64 := by unfold six; omega
theorem six_nat (n : Nat) (h : n < 64) : six (n : Int) = n := by unfold six; omega
theorem six_big (x : Int) : (x % 18446744073709551616).toNat % 64 = six x := by unfold six; omega
theorem and_small (x : Int) (m : Nat) (hm : m < 64) : bits .and .i64 x m = ((six x &&& m : Nat) : Int) := by
  rw [bits_toInt_and, show ((m : Int) % 18446744073709551616).toNat = m from by omega]
  have h1 : (x % 18446744073709551616).toNat &&& m = six x &&& m := by
    have h2 : ((x % 18446744073709551616).toNat &&& m) % 2 ^ 6 = (x % 18446744073709551616).toNat % 2 ^ 6 &&& m % 2 ^ 6 := Nat.and_mod_two_pow
    have h3 := six_big x
    have h4 : (x % 18446744073709551616).toNat &&& m < 2 ^ 6 := Nat.and_lt_two_pow _ (by omega)
    rw [Nat.mod_eq_of_lt h4, show (2 : Nat) ^ 6 = 64 from rfl, h3, Nat.mod_eq_of_lt hm] at h2
    exact h2
  rw [h1]
  have h5 : six x &&& m < 2 ^ 6 := Nat.and_lt_two_pow _ (by omega)
  rw [IntKind.wrap_i64]
  omega
theorem six_and (x y : Int) : six (bits .and .i64 x y) = six x &&& six y := by
  rw [bits_toInt_and, IntKind.wrap_i64]
  have h2 : ((x % 18446744073709551616).toNat &&& (y % 18446744073709551616).toNat) % 2 ^ 6 = (x % 18446744073709551616).toNat % 2 ^ 6 &&& (y % 18446744073709551616).toNat % 2 ^ 6 := Nat.and_mod_two_pow
  rw [show (2 : Nat) ^ 6 = 64 from rfl, six_big, six_big] at h2
  rw [← h2]
  generalize (x % 18446744073709551616).toNat &&& (y % 18446744073709551616).toNat = n
  unfold six
  omega
theorem six_or (x y : Int) : six (bits .or .i64 x y) = six x ||| six y := by
  rw [bits_toInt_or, IntKind.wrap_i64]
  have h2 : ((x % 18446744073709551616).toNat ||| (y % 18446744073709551616).toNat) % 2 ^ 6 = (x % 18446744073709551616).toNat % 2 ^ 6 ||| (y % 18446744073709551616).toNat % 2 ^ 6 := Nat.or_mod_two_pow
  rw [show (2 : Nat) ^ 6 = 64 from rfl, six_big, six_big] at h2
  rw [← h2]
  generalize (x % 18446744073709551616).toNat ||| (y % 18446744073709551616).toNat = n
  unfold six
  omega

/-! ### What follows of what is asked -/
/-- 'level.Closed', over six bits. -/
def cl (r : Nat) : Nat :=
  let a := if r &&& 16 = 0 then r else r ||| 12
  let b := if a &&& 4 = 0 then a else a ||| 2
  let c := if b &&& 32 = 0 then b else b ||| 1
  c &&& 63
theorem cl_lt (r : Nat) : cl r < 64 := by
  show _ &&& 63 < 2 ^ 6
  exact Nat.and_lt_two_pow _ (by decide)
/-- Is a thing asked? -/
def hasI (a t : Int) : Bool := decide (a / t % 2 = 1)
/-- 'Closed' by definition, out of six bools. -/
def clb (b1 b2 b4 b8 b16 b32 : Bool) : Int :=
  let p := b4 || b16
  (if b1 || b32 then 1 else 0) + (if b2 || p then 2 else 0) + (if p then 4 else 0) + (if b8 || b16 then 8 else 0) + (if b16 then 16 else 0) + (if b32 then 32 else 0)
theorem clb_cl (r : Nat) (h : r < 64) : clb (hasI r 1) (hasI r 2) (hasI r 4) (hasI r 8) (hasI r 16) (hasI r 32) = cl r := by
  have : ∀ r : Fin 64, clb (hasI (r.val : Int) 1) (hasI (r.val : Int) 2) (hasI (r.val : Int) 4) (hasI (r.val : Int) 8) (hasI (r.val : Int) 16) (hasI (r.val : Int) 32) = cl r.val := by decide +kernel
  exact this ⟨r, h⟩
theorem cl_idem (r : Nat) (h : r < 64) : cl (cl r) = cl r := by
  have : ∀ r : Fin 64, cl (cl r.val) = cl r.val := by decide +kernel
  exact this ⟨r, h⟩
theorem cl_holds (r : Nat) (h : r < 64) : cl r &&& r = r := by
  have : ∀ r : Fin 64, cl r.val &&& r.val = r.val := by decide +kernel
  exact this ⟨r, h⟩
theorem cl_more (r m : Nat) (h : r < 64) (hm : m < 64) : cl (r ||| m) &&& cl r = cl r := by
  have : ∀ r m : Fin 64, cl (r.val ||| m.val) &&& cl r.val = cl r.val := by decide +kernel
  exact this ⟨r, h⟩ ⟨m, hm⟩

/-! ### The levels -/
def asksN (l : Nat) : Nat := [0, 1, 3, 9, 5, 11, 13, 17, 34, 36, 44, 48].getD l 0
def asksI (l : Int) : Nat := if 0 ≤ l then asksN l.toNat else 0
theorem asksN_lt (l : Nat) : asksN l < 64 := by
  by_cases h : l < 12
  · have : ∀ l : Fin 12, asksN l.val < 64 := by decide +kernel
    exact this ⟨l, h⟩
  · unfold asksN
    rw [List.getD_eq_getElem?_getD, List.getElem?_eq_none (by simp; omega)]
    decide
theorem asksI_lt (l : Int) : asksI l < 64 := by
  unfold asksI
  split
  · exact asksN_lt _
  · decide
theorem asksI_out (l : Int) (h : ¬ (0 ≤ l ∧ l < 12)) : asksI l = 0 := by
  unfold asksI
  split
  · unfold asksN
    rw [List.getD_eq_getElem?_getD, List.getElem?_eq_none (by simp; omega)]
    rfl
  · rfl
/-- What the second one asks, and doesn't follow of what the first one does. -/
def missN (a b : Int) : Nat := asksI b ^^^ (asksI b &&& cl (asksI a))
theorem missN_lt (a b : Int) : missN a b < 64 := Nat.xor_lt_two_pow (n := 6) (asksI_lt b) (Nat.lt_of_le_of_lt Nat.and_le_left (asksI_lt b))
theorem andNot_small (x y : Nat) (hx : x < 64) (hy : y < 64) : bits .andNot .i64 x y = ((x ^^^ (x &&& y) : Nat) : Int) := by
  have : ∀ x y : Fin 64, bits .andNot .i64 (x.val : Int) (y.val : Int) = ((x.val ^^^ (x.val &&& y.val) : Nat) : Int) := by decide +kernel
  exact this ⟨x, hx⟩ ⟨y, hy⟩
def isL (l : Int) : Bool := decide (0 ≤ l ∧ l < 12)
def impl (a b : Int) : Bool := isL a && isL b && missN a b == 0

/-- 'level.Closed', as Go tells it. -/
def clI (l : Int) : Int :=
  let a := if (bits .and .i64 l 16 != 0) = true then bits .or .i64 l 12 else l
  let b := if (bits .and .i64 a 4 != 0) = true then bits .or .i64 a 2 else a
  let c := if (bits .and .i64 b 32 != 0) = true then bits .or .i64 b 1 else b
  bits .and .i64 c 63
theorem and_lit (x : Int) (m : Nat) (hm : m < 64) : (bits .and .i64 x m != 0) = true ↔ ¬ (six x &&& m = 0) := by
  rw [and_small x m hm, bne_iff_ne]
  exact not_congr (by omega)
theorem six_step (x : Int) (m n : Nat) (hm : m < 64) (hn : n < 64) : six (if (bits .and .i64 x m != 0) = true then bits .or .i64 x n else x) = if six x &&& m = 0 then six x else six x ||| n := by
  by_cases h : six x &&& m = 0
  · rw [if_neg (fun e => (and_lit x m hm).1 e h), if_pos h]
  · rw [if_pos ((and_lit x m hm).2 h), if_neg h, six_or, six_nat n hn]
theorem clI_cl (l : Int) : clI l = cl (six l) := by
  have h1 := six_step l 16 12 (by decide) (by decide)
  obtain ⟨a, ha⟩ : ∃ a : Int, a = if (bits .and .i64 l ((16 : Nat) : Int) != 0) = true then bits .or .i64 l ((12 : Nat) : Int) else l := ⟨_, rfl⟩
  rw [← ha] at h1
  have h2 := six_step a 4 2 (by decide) (by decide)
  obtain ⟨b, hb⟩ : ∃ b : Int, b = if (bits .and .i64 a ((4 : Nat) : Int) != 0) = true then bits .or .i64 a ((2 : Nat) : Int) else a := ⟨_, rfl⟩
  rw [← hb] at h2
  have h3 := six_step b 32 1 (by decide) (by decide)
  obtain ⟨c, hc⟩ : ∃ c : Int, c = if (bits .and .i64 b ((32 : Nat) : Int) != 0) = true then bits .or .i64 b ((1 : Nat) : Int) else b := ⟨_, rfl⟩
  rw [← hc] at h3
  have h4 : clI l = bits .and .i64 c ((63 : Nat) : Int) := by subst hc hb ha; rfl
  rw [h4, and_small c 63 (by decide), h3, h2, h1]
  rfl
theorem asksI_ite (l : Int) : (asksI l : Int) = if (l == 1) = true then 1 else if (l == 2) = true then 3 else if (l == 3) = true then 9 else if (l == 4) = true then 5 else if (l == 5) = true then 11 else if (l == 6) = true then 13 else if (l == 7) = true then 17 else if (l == 8) = true then 34 else if (l == 9) = true then 36 else if (l == 10) = true then 44 else if (l == 11) = true then 48 else 0 := by
  by_cases h : 0 ≤ l ∧ l < 12
  · have : ∀ n : Fin 12, (asksI (n.val : Int) : Int) = if ((n.val : Int) == 1) = true then 1 else if ((n.val : Int) == 2) = true then 3 else if ((n.val : Int) == 3) = true then 9 else if ((n.val : Int) == 4) = true then 5 else if ((n.val : Int) == 5) = true then 11 else if ((n.val : Int) == 6) = true then 13 else if ((n.val : Int) == 7) = true then 17 else if ((n.val : Int) == 8) = true then 34 else if ((n.val : Int) == 9) = true then 36 else if ((n.val : Int) == 10) = true then 44 else if ((n.val : Int) == 11) = true then 48 else 0 := by decide +kernel
    have h2 := this ⟨l.toNat, by omega⟩
    rw [show ((⟨l.toNat, by omega⟩ : Fin 12).val : Int) = l from by simp; omega] at h2
    exact h2
  · rw [asksI_out l h]
    simp only [beq_iff_eq]
    repeat rw [if_neg (by omega)]
    rfl

theorem impl_fin (p : Int → Prop) (h : ∀ n : Fin 12, p (n.val : Int)) (x : Int) (h0 : 0 ≤ x) (h1 : x < 12) : p x := by
  have h2 := h ⟨x.toNat, by omega⟩
  rwa [show ((⟨x.toNat, by omega⟩ : Fin 12).val : Int) = x from by simp; omega] at h2
theorem impl_refl (x : Int) (h0 : 0 ≤ x) (h1 : x < 12) : impl x x = true :=
  impl_fin (fun x => impl x x = true) (by decide +kernel) x h0 h1
theorem impl_trans (x y z : Int) (h0 : 0 ≤ x) (h1 : x < 12) (h2 : 0 ≤ y) (h3 : y < 12) (h4 : 0 ≤ z) (h5 : z < 12) : impl x y = true → impl y z = true → impl x z = true :=
  impl_fin (fun x => impl x y = true → impl y z = true → impl x z = true) (fun a => impl_fin (fun y => impl a.val y = true → impl y z = true → impl a.val z = true) (fun b => impl_fin (fun z => impl a.val b.val = true → impl b.val z = true → impl a.val z = true)
    ((by decide +kernel : ∀ a b c : Fin 12, impl (a.val : Int) (b.val : Int) = true → impl (b.val : Int) (c.val : Int) = true → impl (a.val : Int) (c.val : Int) = true) a b) z h4 h5) y h2 h3) x h0 h1
theorem impl_anti (x y : Int) (h0 : 0 ≤ x) (h1 : x < 12) (h2 : 0 ≤ y) (h3 : y < 12) : impl x y = true → impl y x = true → x = y :=
  impl_fin (fun x => impl x y = true → impl y x = true → x = y) (fun a => impl_fin (fun y => impl a.val y = true → impl y a.val = true → (a.val : Int) = y)
    ((by decide +kernel : ∀ a b : Fin 12, impl (a.val : Int) (b.val : Int) = true → impl (b.val : Int) (a.val : Int) = true → (a.val : Int) = (b.val : Int)) a) y h2 h3) x h0 h1

def nameB (l : Nat) : ByteArray := [⟨#[114, 101, 97, 100, 45, 97, 116, 111, 109, 105, 99]⟩, ⟨#[115, 101, 115, 115, 105, 111, 110, 45, 97, 116, 111, 109, 105, 99]⟩, ⟨#[99, 97, 117, 115, 97, 108]⟩, ⟨#[117, 112, 100, 97, 116, 101]⟩, ⟨#[112, 114, 101, 102, 105, 120]⟩, ⟨#[112, 97, 114, 97, 108, 108, 101, 108]⟩, ⟨#[115, 110, 97, 112, 115, 104, 111, 116]⟩, ⟨#[115, 101, 114, 105, 97, 108]⟩, ⟨#[116, 105, 109, 101, 45, 99, 97, 117, 115, 97, 108]⟩, ⟨#[116, 105, 109, 101, 45, 112, 114, 101, 102, 105, 120]⟩, ⟨#[116, 105, 109, 101, 45, 115, 110, 97, 112, 115, 104, 111, 116]⟩, ⟨#[115, 116, 114, 105, 99, 116]⟩].getD l ⟨#[]⟩
def nameI (l : Int) : ByteArray := if 0 ≤ l then nameB l.toNat else ⟨#[]⟩
end Go.Proofs.YtlhfpnkfapghoaaDoor
end

section
/- The functions of package level, and of its reference, come to plain numbers and names. No condition but each theorem's own. -/
set_option linter.unusedVariables false
set_option linter.unusedSimpArgs false
namespace Go.Proofs.YtlhfpnkfapghoaaDoor
open Go.RowKit

theorem is_level (l : Int) (w : World) : Calls Tryd.prog 78 #[.int .i64 l] w fun e w' => e = .returned (.bool (isL l)) ∧ w = w' := by
  by_cases h0 : 0 ≤ l
  · by_cases h1 : l < 12
    · have h : isL l = true := decide_eq_true ⟨h0, h1⟩
      go_enter Tryd.func78, Tryd.ntmps78
      go_wp2
      go_ret
      first | exact ⟨ret_bool h.symm, rfl⟩ | exact ⟨rfl, rfl⟩
    · have h : isL l = false := decide_eq_false (by omega)
      go_enter Tryd.func78, Tryd.ntmps78
      go_wp2
      go_ret
      first | exact ⟨ret_bool h.symm, rfl⟩ | exact ⟨rfl, rfl⟩
  · have h : isL l = false := decide_eq_false (by omega)
    go_enter Tryd.func78, Tryd.ntmps78
    go_wp2
    go_ret
    first | exact ⟨ret_bool h.symm, rfl⟩ | exact ⟨rfl, rfl⟩

def asksArr : Array Value := #[.int .i64 0, .int .i64 1, .int .i64 3, .int .i64 9, .int .i64 5, .int .i64 11, .int .i64 13, .int .i64 17, .int .i64 34, .int .i64 36, .int .i64 44, .int .i64 48]
theorem asks_level (w : World) : Calls Tryd.prog 82 #[] w fun e w' => e = .returned (.agg asksArr) ∧ Ch nob w w' := by
  go_enter Tryd.func82, Tryd.ntmps82
  go_wp2
  exact bodyPost_ret (v := .agg asksArr) (by simp [results, Tryd.results82, go_sem, asksArr]) rfl ⟨rfl, (Ch.refl _ _).alloc _⟩
theorem index_asks (l : Int) (h0 : 0 ≤ l) (h1 : l < 12) (w : World) : (Instr.index 128 (.agg asksArr) (.int .i64 l)).run Tryd.prog w = .ok (.int .i64 (asksI l)) w := by
  refine run_index_one (e := 3) (len := 12) (by kernel_rfl) w (by kernel_rfl) (by kernel_rfl) _ _ _ _ h0 h1 ?_
  have h : ∀ n : Fin 12, asksArr[n.val]? = some (.int .i64 (asksI (n.val : Int))) := by
    intro ⟨n, hn⟩
    rcases n with _|_|_|_|_|_|_|_|_|_|_|_|n <;> first | rfl | omega
  have h2 := h ⟨l.toNat, by omega⟩
  rw [show ((⟨l.toNat, by omega⟩ : Fin 12).val : Int) = l from by simp; omega] at h2
  exact h2

theorem has_ref (a t : Int) (h0 : 0 ≤ a) (h1 : 1 ≤ t) (hu : a ≤ 9223372036854775807) (w : World) : Calls Tryd.prog 53 #[.int .i64 a, .int .i64 t] w fun e w' => e = .returned (.bool (hasI a t)) ∧ w = w' := by
  have h2 : 0 ≤ a / t := Int.ediv_nonneg h0 (by omega)
  have h3 : a / t ≤ a := Int.ediv_le_self t h0
  go_enter Tryd.func53, Tryd.ntmps53
  go_wp2
  go_ret
  exact ⟨ret_bool (by unfold hasI; rfl), rfl⟩

set_option maxHeartbeats 8000000 in
theorem closed_ref (r : Nat) (w : World) (h : r < 64) : Calls Tryd.prog 38 #[.int .i64 r] w fun e w' => e = .returned (.int .i64 (cl r)) ∧ w = w' := by
  rw [← clb_cl r h]
  obtain ⟨b1, h1⟩ : ∃ b, hasI r 1 = b := ⟨_, rfl⟩
  obtain ⟨b2, h2⟩ : ∃ b, hasI r 2 = b := ⟨_, rfl⟩
  obtain ⟨b4, h4⟩ : ∃ b, hasI r 4 = b := ⟨_, rfl⟩
  obtain ⟨b8, h8⟩ : ∃ b, hasI r 8 = b := ⟨_, rfl⟩
  obtain ⟨b16, h16⟩ : ∃ b, hasI r 16 = b := ⟨_, rfl⟩
  obtain ⟨b32, h32⟩ : ∃ b, hasI r 32 = b := ⟨_, rfl⟩
  rw [h1, h2, h4, h8, h16, h32]
  cases b16 <;> cases b4 <;> cases b32
  all_goals
    go_enter Tryd.func38, Tryd.ntmps38
    go_wp2_with (go_at_call 53; refine (has_ref _ _ (by omega) (by omega) (by omega) _).mono ?_; rintro e w' ⟨rfl, rfl⟩)
    all_goals
      go_ret
      exact ⟨ret_int (by simp [clb, *]), rfl⟩
end Go.Proofs.YtlhfpnkfapghoaaDoor
end

section
/- '==' of arrays whose elements are one cell each. No condition. -/
set_option linter.unusedVariables false
set_option linter.unusedSimpArgs false
namespace Go.Proofs.YtlhfpnkfapghoaaDoor
open Go.RowKit

theorem loop_all {P : Program} (q : Nat → Bool) (E : Nat → Sem Bool) (l : List Nat) (w : World) (hE : ∀ i ∈ l, (E i).run P w = .ok (q i) w) :
    (forIn (m := Sem) l ((none, ()) : Option Bool × Unit) fun i __s => do
      let b ← E i
      if (!b) = true then pure (ForInStep.done (some false, ())) else pure (ForInStep.yield (none, ()))).run P w = .ok (if l.all q then (none, ()) else (some false, ())) w := by
  induction l with
  | nil => simp
  | cons i l ih =>
    rw [List.forIn_cons]
    simp only [Sem.run_bind, hE i (by simp), Result.andThen_ok]
    cases hq : q i
    · simp [hq]
    · have := ih (fun j hj => hE j (by simp [hj]))
      simp only [hq, Bool.not_true, Bool.false_eq_true, if_false, Sem.run_pure, Result.andThen_ok, List.all_cons, Bool.true_and]
      exact this
theorem run_equalIn_arr {P : Program} (T e : TypeId) (len : Nat) (hT : P.underlying T = some (.array len e)) (d : Nat) (f g : Nat → Value) (w : World) (q : Nat → Bool)
    (hs : (sizeOf e).run P w = .ok 1 w) (hag : (isAgg e).run P w = .ok false w) (hq : ∀ i, i < len → (Op.equalIn d e (f i) (g i)).run P w = .ok (q i) w) :
    (Op.equalIn (d + 1) T (.agg (arrOf len f)) (.agg (arrOf len g))).run P w = .ok ((List.range len).all q) w := by
  simp only [Op.equalIn, Sem.run_bind, run_underlying hT, Result.andThen_ok, hs]
  rw [Std.Legacy.Range.forIn_eq_forIn_range']
  have h1 := loop_all (P := P) q (fun i => do
    let a ← part e (arrOf len f) (i * 1)
    let b ← part e (arrOf len g) (i * 1)
    Op.equalIn d e a b) (List.range' 0 len) w (fun i hi => by
      have hi' : i < len := by simpa using hi
      simp [Sem.run_bind, part, hag, arrOf_get _ _ _ hi', hq i hi'])
  simp only [bind_assoc] at h1
  simp only [Std.Legacy.Range.size, Nat.sub_zero, Nat.add_sub_cancel, Nat.div_one]
  rw [h1]
  rw [List.range_eq_range']
  cases (List.range' 0 len).all q <;> simp
theorem run_eql_arr {P : Program} (T e : TypeId) (len : Nat) (hT : P.underlying T = some (.array len e)) (f g : Nat → Value) (w : World) (q : Nat → Bool)
    (hs : (sizeOf e).run P w = .ok 1 w) (hag : (isAgg e).run P w = .ok false w) (hq : ∀ i, i < len → (Op.equalIn 9999 e (f i) (g i)).run P w = .ok (q i) w) :
    (binOp .eql T (.agg (arrOf len f)) (.agg (arrOf len g))).run P w = .ok (.bool ((List.range len).all q)) w := by
  simp only [binOp]
  simp [Op.equal, Op.maxDepth, run_equalIn_arr T e len hT 9999 f g w q hs hag hq]

/-- A guarded operation whose guard lets it run. -/
theorem wpList_guarded {P : Program} {w : World} {ops : Array Oper} {rest : List Oper} {o : Oper} {a : Act} {Q : Exit → Act → World → Prop} (hw : Region.wanted o (yielded ops a.tmps) = true)
    (h : ∀ K : Act → World → Prop, (∀ a w, wpList P ops Q rest a w → K a w) → o.wp P a w K Q) : wpList P ops Q (o :: rest) a w :=
  wpList_step fun K hK => by rw [if_pos hw]; exact h K hK
theorem wpList_load_rowG {P : Program} {w : World} {ops : Array Oper} {rest : List Oper} {o : Oper} {a : Act} {Q : Exit → Act → World → Prop} (hw : Region.wanted o (yielded ops a.tmps) = true) (ty : TypeId) (x : Operand) (ho : o.op = .load ty x)
    (g : Nat) (hx : a.eval x = .pointer (some ⟨g, 0, none⟩)) (t : TypeId) (cs : Array Value) (fr : Nat × Nat) (d : TypeDesc) (hg : w.heap[g]? = some (.cells cs t fr))
    (hu : P.underlying ty = some d) (hd : (match d with | .struct _ | .array _ _ => true | _ => false) = true) (hi : (P.info? ty).map (·.size) = some cs.size)
    (h : wpList P ops Q rest (a.put o.dst (.agg cs)) w) : wpList P ops Q (o :: rest) a w :=
  wpList_guarded hw fun _ hK => wp_load_row ty x ho g hx t cs fr d hg hu hd hi (hK _ _ h)
end Go.Proofs.YtlhfpnkfapghoaaDoor
end
