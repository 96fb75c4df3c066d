/- Texts of this claim, merged: HistCp HistSm Tail HistL4. -/
import Derived.Test.YtobfanodjdkkoaaPk0
import Derived.Test.YtobfanodjdkkoaaPk3
import Derived.StillTail
import Derived.OpenShut
section
/- A history apart (history.Copy): rows of transactions of a call's own. No condition but each theorem's own. -/
set_option linter.unusedVariables false
set_option linter.unusedSimpArgs false
namespace Go.Proofs.Ytobfanodjdkkoaa
open Go.RowKit Go.Maps

theorem flatO_one : ∀ (l : List Opn), ∀ u ∈ flatO l, u.oneCell' = true
  | [], u, h => by cases h
  | p :: l, u, h => by
    simp only [flatO, List.mem_cons] at h
    rcases h with rfl | rfl | rfl | h
    · rfl
    · rfl
    · rfl
    · exact flatO_one l u h
/-- 'append(s, x...)', x without a row. -/
theorem wpList_append_void {P : Program} {w : World} {ops : Array Oper} {rest : List Oper} {o : Oper} {a : Act} {Q : Exit → Act → World → Prop} (hgd : o.guard = none) (s x : Operand) (t : TypeId)
    (ho : o.op = .call { callee := .builtin .append, args := #[s, x], argTypes := #[t, t] })
    (base : Nat) (e : TypeId) (i : TypeInfo) (size : Nat) (ht : P.underlying t = some (.slice e)) (hi : P.info? e = some i)
    (v : Value) (n c : Nat) (xs : List Value) (hs : a.eval s = v) (hown : w.ownsRow base e size v n xs) (hx : a.eval x = .slice none 0 c)
    (h : wpList P ops Q rest (a.put o.dst v) w) : wpList P ops Q (o :: rest) a w := by
  refine wpList_plain hgd fun K hK => ?_
  have hrun : (Builtin.append_ #[t, t] o.type #[v, .slice none 0 c]).run P w = .ok v w := by
    rcases hown.2 with ⟨rfl, rfl⟩ | ⟨g, cap, cur, rfl, _, _, hnc, _⟩
    · simp [Builtin.append_, run_underlying ht, sizeOf, typeInfo, hi, Builtin.lenOf, Builtin.firstCells]
    · simp [Builtin.append_, run_underlying ht, sizeOf, typeInfo, hi, Builtin.lenOf, Builtin.firstCells, hnc, storeCells]
  unfold Oper.wp
  simp [execOp, ho, resolve, invoke, builtin, hs, hx, hrun, Result.andThen]
  exact hK _ _ h
/-- 'append(s, x...)', x operations that came in. -/
theorem wpList_append_opl {P : Program} {w : World} {ops : Array Oper} {rest : List Oper} {o : Oper} {a : Act} {Q : Exit → Act → World → Prop} (hgd : o.guard = none) (s x : Operand) (t e : TypeId)
    (ho : o.op = .call { callee := .builtin .append, args := #[s, x], argTypes := #[t, t] }) (he : ElemOK P t e (.agg #[.bool false, .int .i64 0, .int .i64 0]) 3 24)
    (base : Nat) (v : Value) (xs : List Opn) (hs : a.eval s = v) (hown : OwnO w base e v xs)
    (u : Value) (ys : List Opn) (hx : a.eval x = u) (hsrc : Opl w u ys) (hn : xs.length ≤ 1000000) (hm : ys.length ≤ 1000000) (hbase : base ≤ w.heap.size)
    (h : ∀ v' w', OwnO w' base e v' (xs ++ ys) → w.grownBy w' v.ownBlock → wpList P ops Q rest (a.put o.dst v') w') : wpList P ops Q (o :: rest) a w := by
  obtain ⟨i, hi, hz0, hz1, hz2⟩ := he.get
  have hfin : ∀ v' w', w'.ownsRow base e 3 v' (xs.length + ys.length) (flatO xs ++ flatO ys) → w.grownBy w' v.ownBlock → wpList P ops Q rest (a.put o.dst v') w' := fun v' w' h1 h2 => h v' w' (by unfold OwnO; rw [flatO_append, List.length_append]; exact h1) h2
  obtain ⟨A, c, hu, hl, hcell⟩ := hsrc
  cases hA : A with
  | none =>
    have h0 : ys = [] := by
      cases ys with
      | nil => rfl
      | cons y l =>
        obtain ⟨ad, h2, _⟩ := hcell (by simp)
        rw [hA] at h2; cases h2
    subst h0
    rw [hA] at hu
    refine wpList_append_void hgd s x t ho base e i 3 he.under hi v xs.length c _ hs hown (hx.trans hu) ?_
    exact h v w (by simpa using hown) ⟨rfl, rfl, rfl, Nat.le_refl _, fun _ _ _ => rfl⟩
  | some ad =>
    rw [hA] at hu
    refine wpList_append_own w hgd s x t ho base e i _ 3 24 he.under hi hz0 hz1 hz2 rfl (by decide) v xs.length _ hs hown ad ys.length c (flatO ys) (hx.trans hu) (flatO_len ys) ?_ (flatO_one ys) (by unfold maxLen; omega) (by omega) hbase (fun v' w' h1 h2 _ => hfin v' w' h1 h2)
    intro j x hj
    have hjl : j < ys.length * 3 := by rw [← flatO_len]; exact (List.getElem?_eq_some_iff.1 hj).1
    obtain ⟨ad2, h2, h3⟩ := hcell (by omega)
    rw [hA] at h2
    cases h2
    have hq : j / 3 < ys.length := by omega
    obtain ⟨g0, g1, g2⟩ := h3 (j / 3) hq
    obtain ⟨f0, f1, f2⟩ := flatO_at ys (j / 3) hq
    have h4 : j % 3 = 0 ∨ j % 3 = 1 ∨ j % 3 = 2 := by omega
    rcases h4 with h4 | h4 | h4
    · have e1 : j / 3 * 3 = j := by omega
      rw [e1] at g0 f0
      rw [f0] at hj; cases hj
      exact g0
    · have e1 : j / 3 * 3 + 1 = j := by omega
      rw [add_next _ _ _ (by omega), e1] at g1
      rw [e1] at f1
      rw [f1] at hj; cases hj
      exact g1
    · have e1 : j / 3 * 3 + 2 = j := by omega
      rw [add_next _ _ _ (by omega), e1] at g2
      rw [e1] at f2
      rw [f2] at hj; cases hj
      exact g2
theorem ch_of_grown_none {w w' : World} (h : w.grownBy w' none) : Ch nob w w' := ⟨h.os, h.tape, h.output, h.size, fun k hk _ => h.block k hk (by simp)⟩
/-! ### Rows of transactions of a call's own -/
def cellsT (hs : List Txr) (U : Nat → Value) : Nat → List Value
  | 0 => []
  | i + 1 => cellsT hs U i ++ [.int .i64 (hs.getD i txrZero).ses, .int .i64 (hs.getD i txrZero).beg, .int .i64 (hs.getD i txrZero).com, U i]
theorem cellsT_len (hs : List Txr) (U : Nat → Value) : ∀ i, (cellsT hs U i).length = i * 4
  | 0 => rfl
  | i + 1 => by unfold cellsT; rw [List.length_append, cellsT_len hs U i]; simp; omega
theorem cellsT_at (hs : List Txr) (U : Nat → Value) : ∀ i j, j < i → (cellsT hs U i)[j * 4]? = some (.int .i64 (hs.getD j txrZero).ses) ∧ (cellsT hs U i)[j * 4 + 1]? = some (.int .i64 (hs.getD j txrZero).beg) ∧ (cellsT hs U i)[j * 4 + 2]? = some (.int .i64 (hs.getD j txrZero).com) ∧ (cellsT hs U i)[j * 4 + 3]? = some (U j)
  | 0, j, h => by omega
  | i + 1, j, h => by
    unfold cellsT
    by_cases e : j = i
    · subst e
      have hl := cellsT_len hs U j
      refine ⟨?_, ?_, ?_, ?_⟩
      · rw [List.getElem?_append_right (by omega), show j * 4 - (cellsT hs U j).length = 0 by omega]; rfl
      · rw [List.getElem?_append_right (by omega), show j * 4 + 1 - (cellsT hs U j).length = 1 by omega]; rfl
      · rw [List.getElem?_append_right (by omega), show j * 4 + 2 - (cellsT hs U j).length = 2 by omega]; rfl
      · rw [List.getElem?_append_right (by omega), show j * 4 + 3 - (cellsT hs U j).length = 3 by omega]; rfl
    · have hl := cellsT_len hs U i
      have := cellsT_at hs U i j (by omega)
      rw [List.getElem?_append_left (by omega), List.getElem?_append_left (by omega), List.getElem?_append_left (by omega), List.getElem?_append_left (by omega)]
      exact this
theorem cellsT_same (hs : List Txr) {U V : Nat → Value} : ∀ {i}, (∀ j, j < i → U j = V j) → cellsT hs U i = cellsT hs V i
  | 0, _ => rfl
  | i + 1, h => by
    unfold cellsT
    rw [cellsT_same hs (fun j hj => h j (by omega)), h i (by omega)]
/-- A row of the call's own that holds the first n transactions, each with its operations in a row of its own. -/
structure OwnT (w : World) (base : Nat) (v : Value) (hs : List Txr) (U : Nat → Value) (n : Nat) : Prop where
  row : w.ownsRow base 33 4 v n (cellsT hs U n)
  ops : ∀ j, j < n → OwnO w base 35 (U j) (hs.getD j txrZero).ops
  apart : ∀ i j, i < n → j < n → i ≠ j → ∀ b, (U i).ownBlock = some b → (U j).ownBlock ≠ some b
theorem row_ne {w : World} {b1 b2 n m s1 s2 : Nat} {v u : Value} {xs ys : List Value} (h : w.ownsRow b1 33 s1 v n xs) (k : w.ownsRow b2 35 s2 u m ys) (b : Nat) (hb : v.ownBlock = some b) : u.ownBlock ≠ some b := by
  rcases h.2 with ⟨hv, _⟩ | ⟨g, _, _, hv, _, hg, _⟩
  · rw [hv] at hb; cases hb
  · rcases k.2 with ⟨hu, _⟩ | ⟨g2, _, _, hu, _, hg2, _⟩
    · rw [hu]; intro e; cases e
    · rw [hv] at hb
      rw [hu]
      intro e
      have e1 : g = b := by simpa [Value.ownBlock] using hb
      have e2 : g2 = b := by simpa [Value.ownBlock] using e
      rw [e1] at hg
      rw [e2, hg] at hg2
      simp at hg2
theorem OwnT.grown {w w' : World} {base : Nat} {v : Value} {hs : List Txr} {U : Nat → Value} {n : Nat} {row : Option Nat} (h : OwnT w base v hs U n) (hg : w.grownBy w' row) (hne : ∀ b, row = some b → b < base ∨ w.heap.size ≤ b) : OwnT w' base v hs U n := by
  refine ⟨h.row.kept hg ?_, fun j hj => (h.ops j hj).grown hg ?_, h.apart⟩
  · cases hv : v.ownBlock with
    | none => exact .inl rfl
    | some b =>
      refine .inr fun e => ?_
      have := h.row.lt b hv
      have := hne b e.symm
      omega
  · intro b hb e
    have := (h.ops j hj).ge b hb
    have := hne b e
    omega
theorem OwnT.keep {w w' : World} {base : Nat} {v : Value} {hs : List Txr} {U : Nat → Value} {n : Nat} (h : OwnT w base v hs U n) (hc : Ch nob w w') : OwnT w' base v hs U n := h.grown (grown_of_ch hc none) (fun b e => by cases e)
theorem OwnT.off {w w' : World} {base g : Nat} {v : Value} {hs : List Txr} {U : Nat → Value} {n : Nat} (h : OwnT w base v hs U n) (hc : Ch (· = g) w w') (hg : g < base ∨ w.heap.size ≤ g) : OwnT w' base v hs U n := h.grown (grown_of_ch1 hc) (fun b e => by cases e; exact hg)
theorem OwnT.txns {w : World} {base : Nat} {v : Value} {hs : List Txr} {U : Nat → Value} (h : OwnT w base v hs U hs.length) : Txns w v hs := by
  have h0 := h.row.2
  rcases h0 with ⟨hv, hn⟩ | ⟨g, cap, cur, hv, hb, hg, hle2, hcap, hsz, htake⟩
  · exact ⟨none, 0, by rw [hv, hn], by omega, fun h => by omega⟩
  · refine ⟨_, _, hv, ⟨hle2, by unfold maxLen at hcap; omega⟩, fun h0 => ⟨_, rfl, fun j hj => ⟨U j, ?_⟩⟩⟩
    have hc := World.ownsRow.cells h.row (g := g) (by rw [hv]; rfl)
    have hf := cellsT_at hs U _ j hj
    rw [add_next _ _ _ (by omega), add_next _ _ _ (by omega), add_next _ _ _ (by omega)]
    exact ⟨hc _ _ hf.1, hc _ _ hf.2.1, hc _ _ hf.2.2.1, hc _ _ hf.2.2.2, (h.ops j hj).opl⟩
theorem OwnT.snoc {w w' : World} {base b1 i : Nat} {y y' u : Value} {hs : List Txr} {U : Nat → Value} {t : Txr} (h : OwnT w base y hs U i) (hx : hs.getD i txrZero = t) (hu : OwnO w b1 35 u t.ops) (hb : ∀ j, j < i → ∀ b, (U j).ownBlock = some b → b < b1) (hbase : base ≤ b1)
    (hr : w'.ownsRow base 33 4 y' (i + 1) (cellsT hs U i ++ [.int .i64 t.ses, .int .i64 t.beg, .int .i64 t.com, u])) (hg : w.grownBy w' y.ownBlock) : OwnT w' base y' hs (fun j => if j = i then u else U j) (i + 1) := by
  have hlt : ∀ j, j < i → (if j = i then u else U j) = U j := fun j hj => if_neg (by omega)
  refine ⟨?_, fun j hj => ?_, fun j k hj hk hne b hb1 => ?_⟩
  · show w'.ownsRow _ _ _ _ _ (cellsT hs (fun j => if j = i then u else U j) i ++ [_, _, _, (if i = i then u else U i)])
    rw [cellsT_same hs (V := U) (fun j hj => hlt j hj), if_pos rfl, hx]
    exact hr
  · by_cases e : j = i
    · subst e
      rw [if_pos rfl, hx]
      exact (hu.grown hg (fun b h1 h2 => row_ne h.row hu b h2 h1)).base hbase
    · rw [if_neg e]
      exact (h.ops j (by omega)).grown hg (fun b h1 h2 => row_ne h.row (h.ops j (by omega)) b h2 h1)
  · have hb1 : (if j = i then u else U j).ownBlock = some b := hb1
    show (if k = i then u else U k).ownBlock ≠ some b
    by_cases e1 : j = i
    · rw [if_pos e1] at hb1
      by_cases e2 : k = i
      · omega
      · rw [if_neg e2]
        intro h2
        have := hb k (by omega) b h2
        have := (hu.ge b hb1).1
        omega
    · rw [if_neg e1] at hb1
      by_cases e2 : k = i
      · rw [if_pos e2]
        intro h2
        have := hb j (by omega) b hb1
        have := (hu.ge b h2).1
        omega
      · rw [if_neg e2]
        exact h.apart j k (by omega) (by omega) hne b hb1
theorem elem_txn : ElemOK Try.prog 22 33 (.agg #[.int .i64 0, .int .i64 0, .int .i64 0, .slice none 0 0]) 4 48 := ⟨by kernel_rfl, by kernel_rfl⟩
/-- 'make([]Txn, 0, c)'. -/
theorem wpList_make_txn {w : World} {ops : Array Oper} {rest : List Oper} {o : Oper} {a : Act} {Q : Exit → Act → World → Prop} (hgd : o.guard = none) (l c : Operand) (ho : o.op = Op.makeSlice 22 l c)
    (base : Nat) (n : Nat) (hl : a.eval l = .int .i64 0) (hc : a.eval c = .int .i64 n) (hn : n ≤ 1000000) (hbase : base ≤ w.heap.size)
    (h : ∀ w', w'.ownsRow base 33 4 (.slice (some ⟨w.heap.size, 0, none⟩) 0 n) 0 [] → Ch nob w w' → wpList Try.prog ops Q rest (a.put o.dst (.slice (some ⟨w.heap.size, 0, none⟩) 0 n)) w') : wpList Try.prog ops Q (o :: rest) a w := by
  obtain ⟨i, hi, hz0, hz1, hz2⟩ := elem_txn.get
  exact wpList_make_own w hgd l c 22 ho base 33 i _ 4 elem_txn.under hi hz0 hz1 .i64 .i64 n n hl hc rfl (by rw [hz2]; omega) (by unfold maxLen; omega) hbase (fun w' h1 h2 => h w' h1 ⟨h2.os, h2.tape, h2.output, h2.size, fun k hk _ => h2.block k hk (by simp)⟩)
/-- 'append(s, t)', t a transaction. -/
theorem wpList_append_txn {w : World} {ops : Array Oper} {rest : List Oper} {o : Oper} {a : Act} {Q : Exit → Act → World → Prop} (hgd : o.guard = none) (s x : Operand)
    (ho : o.op = .call { callee := .builtin .append, args := #[s, x], argTypes := #[22, 22] })
    (base : Nat) (v : Value) (n : Nat) (xs : List Value) (hs : a.eval s = v) (hown : w.ownsRow base 33 4 v n xs)
    (g : Nat) (p q r : Int) (A : Option Addr) (l c : Nat) (T : TypeId) (hx : a.eval x = .slice (some ⟨g, 0, none⟩) 1 1) (hb : Blk w g #[.int .i64 p, .int .i64 q, .int .i64 r, .slice A l c] T) (hn : n ≤ 1000000) (hbase : base ≤ w.heap.size)
    (h : ∀ v' w', w'.ownsRow base 33 4 v' (n + 1) (xs ++ [.int .i64 p, .int .i64 q, .int .i64 r, .slice A l c]) → w.grownBy w' v.ownBlock → wpList Try.prog ops Q rest (a.put o.dst v') w') : wpList Try.prog ops Q (o :: rest) a w :=
  wpList_append1 hgd s x 22 33 ho _ 4 48 elem_txn rfl (by decide) (by decide) base v n xs hs hown g _ T hx hb rfl (by intro u hu; simp at hu; rcases hu with rfl | rfl | rfl | rfl <;> rfl) (by omega) hbase h
/-- What a copy is. -/
def RetCopy (w : World) (hs : List Txr) (e : Ending) (w' : World) : Prop := ∃ v U, e = .returned v ∧ OwnT w' w.heap.size v hs U hs.length ∧ Ch nob w w'
set_option maxRecDepth 100000 in
set_option maxHeartbeats 4000000 in
theorem copy_history (w : World) (v : Value) (hs : List Txr) (hv : Txns w v hs) (hn : countTo hs hs.length ≤ 1000000) (hm : hs.length ≤ 1000000) : Calls Try.prog 20 #[v] w (RetCopy w hs) := by
  obtain ⟨A, cp, rfl⟩ := hv.shape
  have HV := Lib.hid hv
  obtain ⟨n, hn2⟩ : ∃ n, hs.length = n := ⟨_, rfl⟩
  have HN := Lib.hid hn2
  rw [hn2] at HV hn hm ⊢
  have HC := Lib.hid hn
  clear hv hn2 hn
  go_enter Try.func20, Try.ntmps20
  go_wp2_with (at_make; refine wpList_make_txn rfl _ _ rfl w.heap.size n rfl rfl hm (Nat.le_refl _) ?_; intro w0 ho0 hc0)
  have HO0 := Lib.hid (show OwnT w0 w.heap.size (.slice (some ⟨w.heap.size, 0, none⟩) 0 n) hs (fun _ => undef) 0 from ⟨ho0, fun j hj => by omega, fun i j hi => by omega⟩)
  clear ho0
  go_loopw [11, 3] (fun x y wr => ∃ (i : Nat) (U : Nat → Value), x = .int .i64 i ∧ i ≤ n ∧ Hid (OwnT wr w.heap.size y hs U i) ∧ Ch nob w wr) (fun x _ _ => n - (intOf x).toNat)
  case atStart => exact ⟨0, _, rfl, Nat.zero_le _, HO0, hc0⟩
  case round =>
    clear HO0 hc0
    obtain ⟨i, U, rfl, hi, ho, hc⟩ := hrel
    by_cases hlt : i < n
    · have hd : decide ((i : Int) < (n : Int)) = true := decide_eq_true (by omega)
      obtain ⟨ad, u, rfl, hx0, hx1, hx2, hx3, hu⟩ := HV.out.both hc i (by rw [HN.out]; exact hlt)
      have hle := countTo_mono hs (show i + 1 ≤ n by omega)
      have hcs : countTo hs (i + 1) = countTo hs i + (hs.getD i txrZero).ops.length := rfl
      obtain ⟨T, hT⟩ : ∃ T, hs.getD i txrZero = T := ⟨_, rfl⟩
      rw [hT] at hx0 hx1 hx2 hu hcs
      have HX := Lib.hid hT
      obtain ⟨ts, tb, tc, xs⟩ := T
      dsimp only at hx0 hx1 hx2 hu hcs
      obtain ⟨A2, c2, rfl⟩ := hu.shape
      have hxl : xs.length ≤ 1000000 := by have := HC.out; omega
      have hcA : Ch nob wr (wr.alloc (.cells #[.int .i64 ts, .int .i64 tb, .int .i64 tc, .slice A2 xs.length c2] 33)) := (Ch.refl _ _).alloc _
      have hu1 := (hu.keep hc).keep hcA
      have ho1 := Lib.hid (ho.out.keep hcA)
      have hc1 := hc.seq hcA
      have hb1 := Lib.hid (Blk.new wr #[.int .i64 ts, .int .i64 tb, .int .i64 tc, .slice A2 xs.length c2] 33)
      clear hT hu hle hcs
      have hio := Lib.hid (show i ≤ 1000000 by omega)
      go_wp2_with (first
        | (at_builtin; refine wpList_append_opl rfl (.const (.slice none 0 0)) (.tmp 16) 31 35 rfl elem_op (wr.heap.size + 1) _ [] rfl (OwnO.nil _ _ _) _ xs rfl hu1 (by simp) hxl (by simp) ?_; intro v3 w3 hown3 hg3; obtain ⟨A3, c3, hv3⟩ := (show ∃ A c, v3 = .slice A xs.length c from hown3.opl.shape); subst hv3; have hg4 : (wr.alloc (.cells #[.int .i64 ts, .int .i64 tb, .int .i64 tc, .slice A2 xs.length c2] 33)).grownBy w3 none := hg3; have hb3 := hb1.out.grown hg4 (fun e => by cases e); have hp3 := hb3.cell (i := 3) (v := .slice A2 xs.length c2) rfl; have hfr := hb3.free 3; have hb4 := hb3.set 3 (.slice A3 xs.length c3); have hs4 : Ch (· = wr.heap.size) w3 (w3.setCell ⟨wr.heap.size, 3, none⟩ (.slice A3 xs.length c3)) := (Ch.refl _ _).setCell _ _ (fun _ => rfl); have hc4 := ((hcA.seq (ch_of_grown_none hg4)).fresh hs4 (Nat.le_refl _)).alloc (.cells #[.int .i64 ts, .int .i64 tb, .int .i64 tc, .slice A3 xs.length c3] 33); have ho5 := Lib.hid (ho.out.keep hc4); have hown5 := Lib.hid (((show OwnO w3 (wr.heap.size + 1) 35 (.slice A3 xs.length c3) xs from hown3).off hs4 (fun b hb => by have := (OwnO.ge hown3 b hb).1; omega)).alloc (.cells #[.int .i64 ts, .int .i64 tb, .int .i64 tc, .slice A3 xs.length c3] 33)); have hnb := Lib.hid (Blk.new (w3.setCell ⟨wr.heap.size, 3, none⟩ (.slice A3 xs.length c3)) #[.int .i64 ts, .int .i64 tb, .int .i64 tc, .slice A3 xs.length c3] 33))
        | (refine wpList_load_row rfl 33 (.tmp 5) rfl wr.heap.size rfl 33 #[.int .i64 ts, .int .i64 tb, .int .i64 tc, .slice A3 xs.length c3] (0, 0) _ hb4 rfl rfl (by kernel_rfl) ?_)
        | (at_builtin; refine wpList_append_txn rfl (.tmp 19) (.tmp 21) rfl w.heap.size _ i _ rfl ho5.out.row _ ts tb tc A3 xs.length c3 33 rfl (by simpa using hnb.out) hio.out (Nat.le_trans hc.size hc4.size) ?_; intro v6 w6 hrow6 hg6; have ho6 := ho5.out.snoc HX.out hown5.out (fun j hj b hb => by have := ((ho.out.ops j hj).ge b hb).2; omega) (Nat.le_trans hc.size (Nat.le_succ _)) hrow6 hg6; have hc6 := (hc.seq hc4).grown_own hg6 (fun b hb => (ho5.out.row.lt b hb).1)))
      exact ⟨⟨i + 1, _, by go_num, by omega, Lib.hid ho6, hc6⟩, by simp [intOf]; omega⟩
    · have hd : decide ((i : Int) < (n : Int)) = false := decide_eq_false (by omega)
      obtain rfl : i = n := by omega
      go_wp2_with fail
      go_ret
      exact ⟨_, U, rfl, by rw [HN.out]; exact ho.out, hc⟩
end Go.Proofs.Ytobfanodjdkkoaa
end

section
/- Are two histories one (history.Same)? No condition but each theorem's own. -/
set_option linter.unusedVariables false
set_option linter.unusedSimpArgs false
namespace Go.Proofs.Ytobfanodjdkkoaa
open Go.RowKit Go.Maps

theorem list_ext {α : Type} {d : α} {a b : List α} (h : a.length = b.length) (h2 : ∀ i, i < a.length → a.getD i d = b.getD i d) : a = b := by
  apply List.ext_getElem h
  intro i h3 h4
  have := h2 i h3
  rw [List.getD_eq_getElem?_getD, List.getD_eq_getElem?_getD, List.getElem?_eq_getElem h3, List.getElem?_eq_getElem h4] at this
  exact this
theorem txr_ext {a b : Txr} (h0 : a.ses = b.ses) (h1 : a.beg = b.beg) (h2 : a.com = b.com) (h3 : a.ops = b.ops) : a = b := by
  obtain ⟨_, _, _, _⟩ := a; obtain ⟨_, _, _, _⟩ := b
  simp at h0 h1 h2 h3
  rw [h0, h1, h2, h3]
/-- What Same hands back. -/
def RetSame (w : World) (a b : List Txr) (e : Ending) (w' : World) : Prop := ∃ q : Bool, e = .returned (.bool q) ∧ (q = true ↔ a = b) ∧ Ch nob w w'
theorem RetSame.no {w w' : World} {a b : List Txr} (h : a ≠ b) (hc : Ch nob w w') : RetSame w a b (.returned (.bool false)) w' := ⟨false, rfl, ⟨fun h => (by cases h), fun e => absurd e h⟩, hc⟩
theorem RetSame.yes {w w' : World} {a b : List Txr} (h : a = b) (hc : Ch nob w w') : RetSame w a b (.returned (.bool true)) w' := ⟨true, rfl, ⟨fun _ => h, fun _ => rfl⟩, hc⟩
set_option maxRecDepth 100000 in
set_option maxHeartbeats 8000000 in
theorem same_history (w : World) (v u : Value) (a b : List Txr) (hv : Txns w v a) (hu : Txns w u b) : Calls Try.prog 21 #[v, u] w (RetSame w a b) := by
  obtain ⟨A, cp, rfl⟩ := hv.shape
  obtain ⟨B, cq, rfl⟩ := hu.shape
  have HV := Lib.hid hv
  have HU := Lib.hid hu
  obtain ⟨_, ⟨_, hlen⟩, _⟩ := hv.at
  obtain ⟨n, hn⟩ : ∃ n, a.length = n := ⟨_, rfl⟩
  obtain ⟨m, hm⟩ : ∃ m, b.length = m := ⟨_, rfl⟩
  have HN := Lib.hid hn
  have HM := Lib.hid hm
  rw [hn] at HV hlen
  rw [hm] at HU
  rw [hn, hm]
  clear hv hu hn hm
  by_cases hnm : n = m
  · subst hnm
    have dnm : ((n : Int) != (n : Int)) = false := by simp
    go_enter Try.func21, Try.ntmps21
    go_wp2_with fail
    go_loopw [17] (fun x wr => ∃ i : Nat, x = .int .i64 i ∧ i ≤ n ∧ Hid (∀ j, j < i → a.getD j txrZero = b.getD j txrZero) ∧ Ch nob w wr) (fun x _ => n - (intOf x).toNat)
    case atStart => exact ⟨0, rfl, Nat.zero_le _, Lib.hid (fun j hj => by omega), Ch.refl _ _⟩
    case round =>
      obtain ⟨i, rfl, hi, hst, hc⟩ := hrel
      by_cases hlt : i < n
      · have hd : decide ((i : Int) < (n : Int)) = true := decide_eq_true (by omega)
        obtain ⟨ad, u1, rfl, hx0, hx1, hx2, hx3, hu1⟩ := HV.out.both hc i (by rw [HN.out]; exact hlt)
        obtain ⟨T, hT⟩ : ∃ T, a.getD i txrZero = T := ⟨_, rfl⟩
        rw [hT] at hx0 hx1 hx2 hu1
        obtain ⟨ts, tb, tc, xs⟩ := T
        dsimp only at hx0 hx1 hx2 hu1
        obtain ⟨A2, c2, rfl⟩ := hu1.shape
        have hll := hu1.at.2.1.2
        obtain ⟨l, hl⟩ : ∃ l, xs.length = l := ⟨_, rfl⟩
        rw [hl] at hx3 hu1 hll
        obtain ⟨bd, u2, rfl, hy0, hy1, hy2, hy3, hu2⟩ := HU.out.both (hc.alloc (.cells #[.int .i64 ts, .int .i64 tb, .int .i64 tc, .slice A2 l c2] 33)) i (by rw [HM.out]; exact hlt)
        obtain ⟨S, hS⟩ : ∃ S, b.getD i txrZero = S := ⟨_, rfl⟩
        rw [hS] at hy0 hy1 hy2 hu2
        obtain ⟨ss, sb, sc, ys⟩ := S
        dsimp only at hy0 hy1 hy2 hu2
        obtain ⟨B2, d2, rfl⟩ := hu2.shape
        obtain ⟨k, hk⟩ : ∃ k, ys.length = k := ⟨_, rfl⟩
        rw [hk] at hy3 hu2
        have hc3 : Ch nob w ((wr.alloc (.cells #[.int .i64 ts, .int .i64 tb, .int .i64 tc, .slice A2 l c2] 33)).alloc (.cells #[.int .i64 ss, .int .i64 sb, .int .i64 sc, .slice B2 k d2] 33)) := (hc.alloc _).alloc _
        have hne : (⟨ts, tb, tc, xs⟩ : Txr) ≠ ⟨ss, sb, sc, ys⟩ → Hid (a ≠ b) := fun h => Lib.hid (fun e => h (by rw [← hT, ← hS, e]))
        have HNE := Lib.hid hne
        have HX := Lib.hid hT
        have HY := Lib.hid hS
        have HL := Lib.hid hl
        have HK := Lib.hid hk
        have HU1 := Lib.hid hu1
        have HU2 := Lib.hid hu2
        clear hT hS hne hl hk hu1 hu2 hc
        cases h1 : (ts != ss) with
        | true =>
          have HF := HNE.out (fun e => by cases e; simp at h1)
          go_wp2_with fail
          go_ret
          exact RetSame.no HF.out hc3
        | false =>
          have e1 : ts = ss := by simpa using h1
          have E1 := Lib.hid e1
          clear e1
          cases h2 : (tb != sb) with
          | true =>
            have HF := HNE.out (fun e => by cases e; simp at h2)
            go_wp2_with fail
            go_ret
            exact RetSame.no HF.out hc3
          | false =>
            have e2 : tb = sb := by simpa using h2
            have E2 := Lib.hid e2
            clear e2
            cases h3 : (tc != sc) with
            | true =>
              have HF := HNE.out (fun e => by cases e; simp at h3)
              go_wp2_with fail
              go_ret
              exact RetSame.no HF.out hc3
            | false =>
              have e3 : tc = sc := by simpa using h3
              have E3 := Lib.hid e3
              clear e3
              cases h4 : ((l : Int) != (k : Int)) with
              | true =>
                have HF := HNE.out (fun e => by
                  cases e
                  have e4 : l = k := by rw [← HL.out, ← HK.out]
                  rw [e4] at h4
                  simp at h4)
                go_wp2_with fail
                go_ret
                exact RetSame.no HF.out hc3
              | false =>
                have e4 : l = k := by have : (l : Int) = k := by simpa using h4
                                      omega
                subst e4
                have hb1 := ((Blk.new wr #[.int .i64 ts, .int .i64 tb, .int .i64 tc, .slice A2 l c2] 33).alloc (.cells #[.int .i64 ss, .int .i64 sb, .int .i64 sc, .slice B2 l d2] 33))
                have hb2 := Blk.new (wr.alloc (.cells #[.int .i64 ts, .int .i64 tb, .int .i64 tc, .slice A2 l c2] 33)) #[.int .i64 ss, .int .i64 sb, .int .i64 sc, .slice B2 l d2] 33
                go_wp2_with fail
                obtain ⟨wo, hwo⟩ : ∃ wo, (wr.alloc (.cells #[.int .i64 ts, .int .i64 tb, .int .i64 tc, .slice A2 l c2] 33)).alloc (.cells #[.int .i64 ss, .int .i64 sb, .int .i64 sc, .slice B2 l d2] 33) = wo := ⟨_, rfl⟩
                obtain ⟨g2, hg2⟩ : ∃ g, wr.heap.size + 1 = g := ⟨_, rfl⟩
                have hb2' : Blk wo g2 #[.int .i64 ss, .int .i64 sb, .int .i64 sc, .slice B2 l d2] 33 := by rw [← hwo, ← hg2]; simpa using hb2
                have HB2 := Lib.hid hb2'
                rw [hwo] at hc3 ⊢
                rw [hg2]
                clear hwo hg2 hb1 hb2 hb2' hx0 hx1 hx2 hx3 hy0 hy1 hy2 hy3
                go_loopw [57] (fun x wr => ∃ j : Nat, x = .int .i64 j ∧ j ≤ l ∧ Hid (∀ q, q < j → xs.getD q opZero = ys.getD q opZero) ∧ Hid (Blk wr g2 #[.int .i64 ss, .int .i64 sb, .int .i64 sc, .slice B2 l d2] 33) ∧ Ch nob w wr) (fun x _ => l - (intOf x).toNat)
                case atStart => exact ⟨0, rfl, Nat.zero_le _, Lib.hid (fun j hj => by omega), HB2, hc3⟩
                case round =>
                  clear HB2 hc3
                  obtain ⟨j, rfl, hj, hst2, hb, hc⟩ := hrel
                  by_cases hlt2 : j < l
                  · have hd2 : decide ((j : Int) < (l : Int)) = true := decide_eq_true (by omega)
                    obtain ⟨ad2, rfl, hx0, hx1, hx2⟩ := (HU1.out.keep hc).at.2.2 j (by rw [HL.out]; exact hlt2)
                    obtain ⟨x, hx⟩ : ∃ x, xs.getD j opZero = x := ⟨_, rfl⟩
                    rw [hx] at hx0 hx1 hx2
                    obtain ⟨xw, xk, xv⟩ := x
                    have hcB : Ch nob wr (wr.alloc (.cells #[.bool xw, .int .i64 xk, .int .i64 xv] 35)) := (Ch.refl _ _).alloc _
                    have hc4 := hc.seq hcB
                    obtain ⟨bd2, rfl, hy0, hy1, hy2⟩ := (HU2.out.keep hc4).at.2.2 j (by rw [HK.out]; exact hlt2)
                    obtain ⟨y, hy⟩ : ∃ y, ys.getD j opZero = y := ⟨_, rfl⟩
                    rw [hy] at hy0 hy1 hy2
                    obtain ⟨yw, yk, yv⟩ := y
                    have hb4 := Lib.hid (hb.out.ch hcB (fun h => h))
                    have hp3 := hb4.out.cell (i := 3) (v := .slice (some bd2) l d2) rfl
                    have hnb := Blk.new wr #[.bool xw, .int .i64 xk, .int .i64 xv] 35
                    have hn0 := hnb.cell (i := 0) (v := .bool xw) rfl
                    have hn1 := hnb.cell (i := 1) (v := .int .i64 xk) rfl
                    have hn2 := hnb.cell (i := 2) (v := .int .i64 xv) rfl
                    have X0 := fun u : Ext _ => Ext.cell hp3 u
                    have X1 := fun u : Ext _ => Ext.cell hy0 u
                    have X2 := fun u : Ext _ => Ext.cell hy1 u
                    have X3 := fun u : Ext _ => Ext.cell hy2 u
                    have X4 := fun u : Ext _ => Ext.cell hn0 u
                    have X5 := fun u : Ext _ => Ext.cell hn1 u
                    have X6 := fun u : Ext _ => Ext.cell hn2 u
                    clear hnb
                    have HXX := Lib.hid hx
                    have HYY := Lib.hid hy
                    have hdif : (⟨xw, xk, xv⟩ : Opn) ≠ ⟨yw, yk, yv⟩ → Hid (a ≠ b) := fun h => HNE.out (fun e => h (by
                      have e2 : xs = ys := congrArg Txr.ops e
                      rw [← HXX.out, ← HYY.out, e2]))
                    have HDIF := Lib.hid hdif
                    clear hdif hx hy
                    cases h5 : (yw == xw) with
                    | false =>
                      have HF := HDIF.out (fun e => by cases e; simp at h5)
                      go_wp2_with fail
                      refine wp_region_ch (w0 := _) (by kernel_rfl) (by kernel_rfl) (Ch.refl _ _) ?_
                      repeat go_big_quiet_step (fail)
                      refine wpQuiet_nil ?_
                      rintro wq ⟨⟨_, hcq⟩, rfl⟩
                      have hc9 := hc4.seq hcq
                      have hb9 := Lib.hid (hb4.out.ch hcq (fun h => h))
                      clear X0 X1 X2 X3 X4 X5 X6 hp3 hn0 hn1 hn2 hb4 hcq hc4 hx0 hx1 hx2 hy0 hy1 hy2
                      go_wp2_with fail
                      go_ret
                      exact RetSame.no HF.out hc9
                    | true =>
                      cases h6 : (yk == xk) with
                      | false =>
                        have HF := HDIF.out (fun e => by cases e; simp at h6)
                        go_wp2_with fail
                        refine wp_region_ch (w0 := _) (by kernel_rfl) (by kernel_rfl) (Ch.refl _ _) ?_
                        repeat go_big_quiet_step (fail)
                        refine wpQuiet_nil ?_
                        rintro wq ⟨⟨_, hcq⟩, rfl⟩
                        have hc9 := hc4.seq hcq
                        have hb9 := Lib.hid (hb4.out.ch hcq (fun h => h))
                        clear X0 X1 X2 X3 X4 X5 X6 hp3 hn0 hn1 hn2 hb4 hcq hc4 hx0 hx1 hx2 hy0 hy1 hy2
                        go_wp2_with fail
                        go_ret
                        exact RetSame.no HF.out hc9
                      | true =>
                        cases h7 : (yv == xv) with
                        | false =>
                          have HF := HDIF.out (fun e => by cases e; simp at h7)
                          go_wp2_with fail
                          refine wp_region_ch (w0 := _) (by kernel_rfl) (by kernel_rfl) (Ch.refl _ _) ?_
                          repeat go_big_quiet_step (fail)
                          refine wpQuiet_nil ?_
                          rintro wq ⟨⟨_, hcq⟩, rfl⟩
                          have hc9 := hc4.seq hcq
                          have hb9 := Lib.hid (hb4.out.ch hcq (fun h => h))
                          clear X0 X1 X2 X3 X4 X5 X6 hp3 hn0 hn1 hn2 hb4 hcq hc4 hx0 hx1 hx2 hy0 hy1 hy2
                          go_wp2_with fail
                          go_ret
                          exact RetSame.no HF.out hc9
                        | true =>
                          have HT := Lib.hid (show ∀ q, q < j + 1 → xs.getD q opZero = ys.getD q opZero from fun q hq => by
                            by_cases e : q = j
                            · rw [e, HXX.out, HYY.out]
                              exact opn_ext (by simpa using h5 : yw = xw).symm (by simpa using h6 : yk = xk).symm (by simpa using h7 : yv = xv).symm
                            · exact hst2.out q (by omega))
                          go_wp2_with fail
                          refine wp_region_ch (w0 := _) (by kernel_rfl) (by kernel_rfl) (Ch.refl _ _) ?_
                          repeat go_big_quiet_step (fail)
                          refine wpQuiet_nil ?_
                          rintro wq ⟨⟨_, hcq⟩, rfl⟩
                          have hc9 := hc4.seq hcq
                          have hb9 := Lib.hid (hb4.out.ch hcq (fun h => h))
                          clear X0 X1 X2 X3 X4 X5 X6 hp3 hn0 hn1 hn2 hb4 hcq hc4 hx0 hx1 hx2 hy0 hy1 hy2
                          go_wp2_with fail
                          go_roundw
                          case rel => exact ⟨j + 1, by go_num, by omega, HT, hb9, hc9⟩
                          case measure => simp [intOf]; omega
                  · have hd2 : decide ((j : Int) < (l : Int)) = false := decide_eq_false (by omega)
                    have HT := Lib.hid (show ∀ q, q < i + 1 → a.getD q txrZero = b.getD q txrZero from fun q hq => by
                      by_cases e : q = i
                      · rw [e, HX.out, HY.out]
                        exact txr_ext E1.out E2.out E3.out (list_ext (by rw [HL.out, HK.out]) (fun r hr => hst2.out r (by have := HL.out; have hr' : r < xs.length := hr; omega)))
                      · exact hst.out q (by omega))
                    go_wp2_with fail
                    go_roundw
                    case rel => exact ⟨i + 1, by go_num, by omega, HT, hc⟩
                    case measure => simp [intOf]; omega
      · have hd : decide ((i : Int) < (n : Int)) = false := decide_eq_false (by omega)
        have HF := Lib.hid (show a = b from list_ext (by rw [HN.out, HM.out]) (fun r hr => hst.out r (by have := HN.out; omega)))
        go_wp2_with fail
        go_ret
        exact RetSame.yes HF.out hc
  · have dnm : ((n : Int) != (m : Int)) = true := by simp; omega
    have HF := Lib.hid (show a ≠ b from fun e => hnm (by rw [← HN.out, ← HM.out, e]))
    go_enter Try.func21, Try.ntmps21
    go_wp2_with fail
    go_ret
    exact RetSame.no HF.out (Ch.refl _ _)
end Go.Proofs.Ytobfanodjdkkoaa
end

section
/- Regions that draw their order, whose operations only read and call what changes nothing old, but for those at the end that wait for all: one walk in the order of the text. No condition. -/
set_option linter.unusedVariables false
set_option linter.unusedSimpArgs false
namespace Go.Proofs.Ytobfanodjdkkoaa
open Go.RowKit

section
variable {P : Program} {ops : Array Oper} {md : Region.Mode} {C : World → Prop}
/-- Of the first n operations f come up, in any order; then L. -/
def AnyHead (P : Program) (md : Region.Mode) (ops : Array Oper) (C : World → Prop) (n : Nat) (L : Array Bool → Act → Prop) : Nat → Array Bool → Act → Prop
  | 0, listed, a => L listed a
  | f + 1, listed, a => Region.ready md ops listed ≠ [] ∧ ∀ i ∈ Region.ready md ops listed, i < n ∧ qOp P ops C i (AnyHead P md ops C n L f (listed.setIfInBounds i true)) a
theorem any_of_head {n g : Nat} {L : Array Bool → Act → Prop} {Q' : Exit → Act → World → Prop} (hL : ∀ listed a w, C w → L listed a → wpAny P md ops Q' g listed a w) :
    ∀ (f : Nat) (listed : Array Bool) (a : Act) (w : World), C w → AnyHead P md ops C n L f listed a → wpAny P md ops Q' (f + g) listed a w := by
  intro f
  induction f with
  | zero =>
    intro listed a w hw h
    rw [Nat.zero_add]
    exact hL _ _ _ hw h
  | succ f ih =>
    intro listed a w hw h
    have e : f + 1 + g = (f + g) + 1 := by omega
    rw [e]
    exact ⟨fun h0 => absurd h0 h.1, fun i hi => wpOp_of_qOp hw (fun a' w' hw' h' => ih _ a' w' hw' h') (h.2 i hi).2⟩
/-- What comes up first in the text may be taken first. -/
theorem head_first {n i : Nat} {oi : Oper} {v : Value} {L : Array Bool → Act → Prop} (hi : ops[i]? = some oi) (hsel : ∀ (j : Nat) (o : Oper) cs b, ops[j]? = some o → o.op ≠ .select cs b)
    (hs : Region.sinkB md ops n = true) (hc : Region.chainB md ops n = true) (hn : n < ops.size) (hin : i < n)
    (hdone : ∀ listed a, L listed a → ∀ j ∈ Region.ready md ops listed, n ≤ j) :
    ∀ (f : Nat) (listed : Array Bool) (a : Act), HeadInv md ops n listed →
      (∀ j oj, ops[j]? = some oj → j ≠ i → listed.getD j true = false → (∀ e ∈ oj.after, Region.binds md e = true → e.on ≠ i) → oi.apart ops oj = true) →
      i ∈ Region.ready md ops listed → YieldsIn P ops C oi v a →
      AnyHead P md ops C n L f (listed.setIfInBounds i true) (a.put oi.dst v) → AnyHead P md ops C n L (f + 1) listed a := by
  intro f
  induction f with
  | zero =>
    intro listed a inv _ hr hy H
    refine ⟨fun h => (by rw [h] at hr; cases hr), fun j hj => ?_⟩
    have hjn : j < n := Nat.lt_of_not_le fun h => tail_waits hs hc hn inv _ i rfl hin (mem_ready.1 hr).1 j h hj
    refine ⟨hjn, ?_⟩
    by_cases hji : j = i
    · subst hji
      exact hy.qOp hi H
    · have := hdone _ _ H j (ready_mono hj hji)
      omega
  | succ f ih =>
    intro listed a inv hfree hr hy H
    refine ⟨fun h => (by rw [h] at hr; cases hr), fun j hj => ?_⟩
    have hjn : j < n := Nat.lt_of_not_le fun h => tail_waits hs hc hn inv _ i rfl hin (mem_ready.1 hr).1 j h hj
    refine ⟨hjn, ?_⟩
    by_cases hji : j = i
    · subst hji
      exact hy.qOp hi H
    · obtain ⟨hjun, oj, hoj, hall⟩ := mem_ready.1 hj
      have hnot : ∀ e ∈ oj.after, Region.binds md e = true → e.on ≠ i := fun e he hb heq => by
        have h1 := hall e he hb
        rw [heq, getD_both (mem_ready.1 hr).1] at h1
        cases h1
      have h2 := qOp_put hoj (hfree j oj hoj hji hjun hnot) (fun cs b => hsel i oi cs b hi) (fun cs b => hsel j oj cs b hoj) hy (H.2 j (ready_mono hj hji)).2
      refine qOp_mono (fun a' h3 => ih (listed.setIfInBounds j true) a' (inv.set hj hjn) (fun k ok hk hki hun hno => ?_) (ready_mono hr (Ne.symm hji)) h3.1 ?_) h2
      · refine hfree k ok hk hki ?_ hno
        by_cases hjk : j = k
        · subst hjk; exact hjun
        · rwa [getD_set_ne true hjk] at hun
      · rw [Array.setIfInBounds_comm _ _ hji]
        exact h3.2
theorem head_lex {n g : Nat} {Lq : Act → Prop} (hsel : Region.noSelect ops = true) (hs : Region.sinkB md ops n = true) (hc : Region.chainB md ops n = true) (hn : n < ops.size) :
    ∀ (l : List Oper) (k : Nat) (listed : Array Bool) (a : Act), (∀ j, j < l.length → l[j]? = ops[k + j]?) → k + l.length = n → HeadInv md ops n listed →
    Region.lexHead md ops g l.length k listed = true → wpQuiet P ops C Lq l a →
    AnyHead P md ops C n (fun listed' a' => Region.seqB md ops g n listed' = true ∧ Lq a') l.length listed a := by
  intro l
  induction l with
  | nil =>
    intro k listed a _ hk inv hB h
    obtain rfl : k = n := by simpa using hk
    exact ⟨by simpa [Region.lexHead] using hB, h⟩
  | cons o l ih =>
    intro k listed a hl hk inv hB h
    have h0 : ops[k]? = some o := by simpa using (hl 0 (by simp)).symm
    simp only [List.length_cons, Region.lexHead, Bool.and_eq_true] at hB hk
    have hkn : k < n := by omega
    have hr : k ∈ Region.ready md ops listed := by simpa using hB.1.1
    have hst : qOp P ops C k (wpQuiet P ops C Lq l) a := by
      unfold qOp
      simp only [h0]
      exact h
    obtain ⟨v, hy, hK⟩ := yieldsIn_of_qOp h0 hst
    exact head_first h0 (Region.noSelect_spec hsel) hs hc hn hkn (fun listed' a' hL => seqB_ready hL.1) l.length listed a inv (Region.free_spec h0 hB.1.2) hr hy
      (ih (k + 1) _ _ (fun j hj => by have := hl (j + 1) (by simp; omega); simpa [Nat.add_assoc, Nat.add_comm 1 j] using this) (by omega) (inv.set hr hkn) hB.2 hK)
theorem wp_region_quiet_tail {id : Nat} {Q : Exit → Act → World → Prop} {a : Act} {w : World} {l : List Oper} (n : Nat) (hm : P.follows .mixedOrders = true) (hB : Region.lexTailB .any l.toArray n = true) (hC : C w.drew)
    (h : wpQuiet P l.toArray C (fun a' => ∀ w', C w' → wpList P l.toArray Q (l.drop n) a' w') (l.take n) a) : (Code.region id l.toArray true).wp P Q a w := by
  simp only [Region.lexTailB, Bool.and_eq_true, decide_eq_true_eq] at hB
  obtain ⟨⟨⟨⟨hsel, hn⟩, hs⟩, hc⟩, hlex⟩ := hB
  have hn' : n < l.length := by simpa using hn
  have htl : (l.take n).length = n := by rw [List.length_take]; omega
  have hdl : (l.drop n).length = l.toArray.size - n := by simp
  have inv0 : HeadInv .any l.toArray n (Array.replicate l.toArray.size false) :=
    ⟨by simp, fun j oj _ hl => (by rw [getD_replicate_false] at hl; cases hl), fun t _ ht => getD_in (by simpa using ht) (getD_replicate_false _ _)⟩
  have H := head_lex (P := P) (C := C) (md := .any) (g := l.toArray.size - n) hsel hs hc hn (l.take n) 0 _ a (fun j hj => by
    have hj' : j < n := by rw [htl] at hj; exact hj
    simp [hj']) (by simpa using htl) inv0 (by rw [htl]; exact hlex) h
  refine wp_region_any hm ?_
  have := any_of_head (Q' := Q) (g := l.toArray.size - n) (fun listed a' w' hw' hL => by
    have := wpAny_of_seq (md := .any) (Q' := Q) (l.drop n) n listed a' w' (fun j => by simp [List.getElem?_drop]) (by rw [hdl]; exact hL.1) (hL.2 w' hw')
    rwa [hdl] at this) _ _ _ _ hC H
  rw [htl, show n + (l.toArray.size - n) = l.toArray.size by omega] at this
  exact this
end
/-- At the class of worlds in which nothing old has changed. -/
theorem wp_region_ch_tail {P : Program} {id : Nat} {Q : Exit → Act → World → Prop} {a : Act} {w w0 : World} {l : List Oper} (n : Nat) (hm : P.follows .mixedOrders = true) (hB : Region.lexTailB .any l.toArray n = true) (hc : Ch nob w0 w)
    (h : wpQuiet P l.toArray (fun w' => ∃ u : Ext w0, w' = u.val) (fun a' => ∀ w', (∃ u : Ext w0, w' = u.val) → wpList P l.toArray Q (l.drop n) a' w') (l.take n) a) : (Code.region id l.toArray true).wp P Q a w :=
  wp_region_quiet_tail n hm hB ⟨⟨_, hc.drew⟩, rfl⟩ h
end Go.Proofs.Ytobfanodjdkkoaa
end

section
/- The law HistoryCopies: a copy is the same, and apart. No condition but each theorem's own. -/
set_option linter.unusedVariables false
set_option linter.unusedSimpArgs false
namespace Go.Proofs.Ytobfanodjdkkoaa
open Go.RowKit Go.Maps

theorem own_add (g k : Nat) : (⟨g, 0, none⟩ : Addr).add k = ⟨g, k, none⟩ := by unfold Addr.add; split <;> simp_all
/-- A row of transactions, from its cells. -/
theorem txns_mk {w : World} {g n cap : Nat} {hs : List Txr} {U : Nat → Value} (hlen : hs.length = n) (hcap : n ≤ cap ∧ n ≤ 9223372036854775807)
    (h : ∀ j, j < n → w.cell? ⟨g, j * 4, none⟩ = some (.int .i64 (hs.getD j txrZero).ses) ∧ w.cell? ⟨g, j * 4 + 1, none⟩ = some (.int .i64 (hs.getD j txrZero).beg) ∧ w.cell? ⟨g, j * 4 + 2, none⟩ = some (.int .i64 (hs.getD j txrZero).com) ∧ w.cell? ⟨g, j * 4 + 3, none⟩ = some (U j) ∧ Opl w (U j) (hs.getD j txrZero).ops) : Txns w (.slice (some ⟨g, 0, none⟩) n cap) hs := by
  subst hlen
  refine ⟨_, _, rfl, hcap, fun _ => ⟨_, rfl, fun j hj => ⟨U j, ?_⟩⟩⟩
  rw [own_add]
  exact h j hj
theorem getD_setT (hs : List Txr) (t : Txr) (at_ j : Nat) (h : at_ < hs.length) : (hs.set at_ t).getD j txrZero = if j = at_ then t else hs.getD j txrZero := by
  rw [List.getD_eq_getElem?_getD, List.getElem?_set]
  by_cases e : at_ = j
  · subst e; simp [h]
  · rw [if_neg e, if_neg (fun h => e h.symm), List.getD_eq_getElem?_getD]
theorem set_ne {hs : List Txr} {t : Txr} {at_ : Nat} (h : at_ < hs.length) (hne : t ≠ hs.getD at_ txrZero) : hs.set at_ t ≠ hs := fun e => hne (by
  have := getD_setT hs t at_ at_ h
  rw [if_pos rfl, e] at this
  exact this.symm)
theorem wrap_ne {x : Int} (h : (Lit.int .i64 x).wf = true) : wrap64 (x + 1) ≠ x := by
  have h2 := h
  simp [Lit.wf, IntKind.min, IntKind.max, IntKind.signed, IntKind.bits] at h2
  unfold wrap64
  omega
theorem getD_setO (xs : List Opn) (x : Opn) (at_ j : Nat) (h : at_ < xs.length) : (xs.set at_ x).getD j opZero = if j = at_ then x else xs.getD j opZero := by
  rw [List.getD_eq_getElem?_getD, List.getElem?_set]
  by_cases e : at_ = j
  · subst e; simp [h]
  · rw [if_neg e, if_neg (fun h => e h.symm), List.getD_eq_getElem?_getD]
/-- The cells of a row of transactions. -/
theorem OwnT.cells {w : World} {base g cap n : Nat} {hs : List Txr} {U : Nat → Value} (h : OwnT w base (.slice (some ⟨g, 0, none⟩) n cap) hs U n) (j : Nat) (hj : j < n) : w.cell? ⟨g, j * 4, none⟩ = some (.int .i64 (hs.getD j txrZero).ses) ∧ w.cell? ⟨g, j * 4 + 1, none⟩ = some (.int .i64 (hs.getD j txrZero).beg) ∧ w.cell? ⟨g, j * 4 + 2, none⟩ = some (.int .i64 (hs.getD j txrZero).com) ∧ w.cell? ⟨g, j * 4 + 3, none⟩ = some (U j) := by
  have hf := cellsT_at hs U n j hj
  rw [World.ownsRow.cellAt h.row _ (by omega), World.ownsRow.cellAt h.row _ (by omega), World.ownsRow.cellAt h.row _ (by omega), World.ownsRow.cellAt h.row _ (by omega)]
  exact hf
/-- One cell of a row is written: the cells. -/
theorem cell_put {w : World} {g j k : Nat} {u v : Value} (h : w.cell? ⟨g, j, none⟩ = some v) : (w.setCell ⟨g, k, none⟩ u).cell? ⟨g, j, none⟩ = some (if j = k then u else v) := by
  unfold World.cell? at h ⊢
  unfold World.setCell
  simp only [Array.getElem?_modify, if_true] at h ⊢
  cases e : w.heap[g]? with
  | none => rw [e] at h; simp at h
  | some o =>
    rw [e] at h
    cases o with
    | cells cs T fr =>
      simp at h ⊢
      by_cases e2 : j = k
      · subst e2
        have : j < cs.size := (Array.getElem?_eq_some_iff.1 h).1
        simp [this]
      · simp [e2, Array.getElem?_setIfInBounds, Ne.symm e2, h]
    | _ => simp at h
/-- A whole number of a transaction of an own row is written. -/
theorem OwnT.put_int {w : World} {base g cap n at_ d : Nat} {hs : List Txr} {U : Nat → Value} {t : Txr} {z : Int} (h : OwnT w base (.slice (some ⟨g, 0, none⟩) n cap) hs U n) (hn : hs.length = n) (hat : at_ < n) (hd : d < 3)
    (ht0 : t.ops = (hs.getD at_ txrZero).ops) (h0 : t.ses = if d = 0 then z else (hs.getD at_ txrZero).ses) (h1 : t.beg = if d = 1 then z else (hs.getD at_ txrZero).beg) (h2 : t.com = if d = 2 then z else (hs.getD at_ txrZero).com) : Txns (w.setCell ⟨g, at_ * 4 + d, none⟩ (.int .i64 z)) (.slice (some ⟨g, 0, none⟩) n cap) (hs.set at_ t) := by
  have hx := h.row.2
  have hcap : n ≤ cap ∧ n ≤ 9223372036854775807 := by
    obtain ⟨_, h5, _⟩ := (hn ▸ h).txns.at
    omega
  refine txns_mk (U := U) (by rw [List.length_set]; exact hn) hcap fun j hj => ?_
  have hc := h.cells j hj
  have hch : Ch (· = g) w (w.setCell ⟨g, at_ * 4 + d, none⟩ (.int .i64 z)) := (Ch.refl _ _).setCell _ _ (fun _ => rfl)
  have hop := (h.ops j hj).off hch (fun b hb e => row_ne h.row (h.ops j hj) g rfl (by rw [hb, e]))
  rw [getD_setT _ _ _ _ (by omega)]
  rw [cell_put hc.1, cell_put hc.2.1, cell_put hc.2.2.1, cell_put hc.2.2.2]
  rw [if_neg (show ¬ j * 4 + 3 = at_ * 4 + d by omega)]
  by_cases e : j = at_
  · subst e
    rw [if_pos rfl, h0, h1, h2, ht0]
    refine ⟨?_, ?_, ?_, rfl, hop.opl⟩
    · by_cases e0 : d = 0
      · rw [if_pos (by omega), if_pos e0]
      · rw [if_neg (by omega), if_neg e0]
    · by_cases e0 : d = 1
      · rw [if_pos (by omega), if_pos e0]
      · rw [if_neg (by omega), if_neg e0]
    · by_cases e0 : d = 2
      · rw [if_pos (by omega), if_pos e0]
      · rw [if_neg (by omega), if_neg e0]
  · rw [if_neg e, if_neg (by omega), if_neg (by omega), if_neg (by omega)]
    exact ⟨rfl, rfl, rfl, rfl, hop.opl⟩
theorem OwnT.put_ops {w w' : World} {base g cap n at_ : Nat} {hs : List Txr} {U : Nat → Value} {t : Txr} {u : Value} (h : OwnT w base (.slice (some ⟨g, 0, none⟩) n cap) hs U n) (hn : hs.length = n) (hat : at_ < n) (hg : w.grownBy w' (U at_).ownBlock) (hu : OwnO w' base 35 u t.ops)
    (ht : t = { hs.getD at_ txrZero with ops := t.ops }) : Txns (w'.setCell ⟨g, at_ * 4 + 3, none⟩ u) (.slice (some ⟨g, 0, none⟩) n cap) (hs.set at_ t) := by
  have hcap : n ≤ cap ∧ n ≤ 9223372036854775807 := by
    obtain ⟨_, h5, _⟩ := (hn ▸ h).txns.at
    omega
  have hr := h.row.kept hg (.inr (fun e => row_ne h.row (h.ops at_ hat) g rfl e.symm))
  have hch : Ch (· = g) w' (w'.setCell ⟨g, at_ * 4 + 3, none⟩ u) := (Ch.refl _ _).setCell _ _ (fun _ => rfl)
  refine txns_mk (U := fun j => if j = at_ then u else U j) (by rw [List.length_set]; exact hn) hcap fun j hj => ?_
  have hf := cellsT_at hs U n j hj
  have g0 := (World.ownsRow.cellAt hr (j * 4) (by omega)).trans hf.1
  have g1 := (World.ownsRow.cellAt hr (j * 4 + 1) (by omega)).trans hf.2.1
  have g2 := (World.ownsRow.cellAt hr (j * 4 + 2) (by omega)).trans hf.2.2.1
  have g3 := (World.ownsRow.cellAt hr (j * 4 + 3) (by omega)).trans hf.2.2.2
  rw [getD_setT _ _ _ _ (by omega), cell_put g0, cell_put g1, cell_put g2, cell_put g3]
  rw [if_neg (show ¬ j * 4 = at_ * 4 + 3 by omega), if_neg (show ¬ j * 4 + 1 = at_ * 4 + 3 by omega), if_neg (show ¬ j * 4 + 2 = at_ * 4 + 3 by omega)]
  by_cases e : j = at_
  · subst e
    simp only [if_true]
    have hv := (hu.off hch (fun b hb e => row_ne hr hu g rfl (by rw [hb, e]))).opl
    obtain ⟨t0, t1, t2, t3⟩ := t
    cases ht
    refine ⟨?_, ?_, ?_, ?_, hv⟩ <;> first | trivial | rfl
  · simp only [if_neg e]
    rw [if_neg (by omega)]
    have ho := (h.ops j hj).grown hg (fun b hb e2 => h.apart j at_ hj hat e b hb e2)
    refine ⟨?_, ?_, ?_, ?_, (ho.off hch (fun b hb e2 => row_ne hr ho g rfl (by rw [hb, e2]))).opl⟩ <;> first | trivial | rfl
theorem OwnT.put_val {w : World} {base g cap n at_ gu l cu p : Nat} {hs : List Txr} {U : Nat → Value} {t : Txr} {x : Opn} {z : Int} (h : OwnT w base (.slice (some ⟨g, 0, none⟩) n cap) hs U n) (hn : hs.length = n) (hat : at_ < n) (hU : U at_ = .slice (some ⟨gu, 0, none⟩) l cu)
    (hl : (hs.getD at_ txrZero).ops.length = l) (hp : p < l) (hx : (hs.getD at_ txrZero).ops.getD p opZero = x) (ht : t = { hs.getD at_ txrZero with ops := (hs.getD at_ txrZero).ops.set p ⟨x.wr, x.key, z⟩ }) : Txns (w.setCell ⟨gu, p * 3 + 2, none⟩ (.int .i64 z)) (.slice (some ⟨g, 0, none⟩) n cap) (hs.set at_ t) := by
  have hcap : n ≤ cap ∧ n ≤ 9223372036854775807 := by
    obtain ⟨_, h5, _⟩ := (hn ▸ h).txns.at
    omega
  have hch : Ch (· = gu) w (w.setCell ⟨gu, p * 3 + 2, none⟩ (.int .i64 z)) := (Ch.refl _ _).setCell _ _ (fun _ => rfl)
  have hne : g ≠ gu := fun e => row_ne h.row (h.ops at_ hat) g rfl (by rw [hU, e]; rfl)
  have hr := h.row.kept (grown_of_ch1 hch) (.inr (by simp [Value.ownBlock]; exact hne))
  refine txns_mk (U := U) (by rw [List.length_set]; exact hn) hcap fun j hj => ?_
  have hf := cellsT_at hs U n j hj
  have g0 := (World.ownsRow.cellAt hr (j * 4) (by omega)).trans hf.1
  have g1 := (World.ownsRow.cellAt hr (j * 4 + 1) (by omega)).trans hf.2.1
  have g2 := (World.ownsRow.cellAt hr (j * 4 + 2) (by omega)).trans hf.2.2.1
  have g3 := (World.ownsRow.cellAt hr (j * 4 + 3) (by omega)).trans hf.2.2.2
  rw [getD_setT _ _ _ _ (by omega)]
  by_cases e : j = at_
  · subst e
    rw [if_pos rfl]
    have hrow := h.ops j hj
    obtain ⟨xs, hxs⟩ : ∃ xs, (hs.getD j txrZero).ops = xs := ⟨_, rfl⟩
    rw [hxs] at hl hx ht hrow
    rw [hU] at hrow
    have hop : Opl (w.setCell ⟨gu, p * 3 + 2, none⟩ (.int .i64 z)) (U j) (xs.set p ⟨x.wr, x.key, z⟩) := by
      rw [hU]
      subst hl
      refine ⟨_, _, (by rw [List.length_set]), (by rw [List.length_set]; exact hrow.opl.at.2.1), fun _ => ⟨_, rfl, fun i hi => ?_⟩⟩
      rw [List.length_set] at hi
      have hfi := flatO_at xs i hi
      have k0 := (World.ownsRow.cellAt hrow (i * 3) (by omega)).trans hfi.1
      have k1 := (World.ownsRow.cellAt hrow (i * 3 + 1) (by omega)).trans hfi.2.1
      have k2 := (World.ownsRow.cellAt hrow (i * 3 + 2) (by omega)).trans hfi.2.2
      rw [own_add, getD_setO _ _ _ _ hp]
      show _ ∧ (w.setCell _ _).cell? ⟨gu, i * 3 + 1, none⟩ = _ ∧ (w.setCell _ _).cell? ⟨gu, i * 3 + 2, none⟩ = _
      rw [cell_put k0, cell_put k1, cell_put k2]
      rw [if_neg (show ¬ i * 3 = p * 3 + 2 by omega), if_neg (show ¬ i * 3 + 1 = p * 3 + 2 by omega)]
      by_cases e2 : i = p
      · subst e2
        rw [if_pos rfl, if_pos rfl, hx]
        exact ⟨rfl, rfl, rfl⟩
      · rw [if_neg e2, if_neg (by omega)]
        refine ⟨?_, ?_, ?_⟩ <;> first | trivial | rfl
    rw [ht, g0, g1, g2, g3]
    refine ⟨?_, ?_, ?_, ?_, hop⟩ <;> first | trivial | rfl
  · rw [if_neg e, g0, g1, g2, g3]
    have ho := (h.ops j hj).off hch (fun b hb e2 => h.apart j at_ hj hat e b hb (by rw [hU, e2]; rfl))
    refine ⟨?_, ?_, ?_, ?_, ho.opl⟩ <;> first | trivial | rfl
theorem txns_take {w : World} {A : Option Addr} {n cp : Nat} {hs : List Txr} (h : Txns w (.slice A n cp) hs) (m : Nat) (hm : m ≤ n) : Txns w (.slice A m cp) (hs.take m) := by
  obtain ⟨hn, hl, hx⟩ := h.at
  have hlen : (hs.take m).length = m := by rw [List.length_take]; omega
  refine ⟨A, cp, by rw [hlen], by rw [hlen]; omega, fun h0 => ?_⟩
  rw [hlen] at h0 ⊢
  obtain ⟨ad, _, hA, _⟩ := hx 0 (by omega)
  refine ⟨ad, hA, fun j hj => ?_⟩
  obtain ⟨ad2, u, hA2, h2⟩ := hx j (by omega)
  rw [hA] at hA2
  cases hA2
  refine ⟨u, ?_⟩
  rw [List.getD_eq_getElem?_getD, List.getElem?_take, if_pos hj, ← List.getD_eq_getElem?_getD]
  exact h2
set_option maxRecDepth 100000 in
set_option maxHeartbeats 8000000 in
theorem law_historycopies (w : World) (v : Value) (hs : List Txr) (hv : Txns w v hs) (hk : TxnsOk hs) (hL : LensOk hs) (i : Int) (hi : 0 ≤ i ∧ i ≤ 255) (k : Int) (hk2 : 0 ≤ k ∧ k ≤ 255) : Calls Try.prog 6 #[v, .int .u8 i, .int .u8 k] w fun e w' => e = .returned (.bool true) ∧ Below w.heap.size w w' := by
  obtain ⟨A, cp, rfl⟩ := hv.shape
  have HV := Lib.hid hv
  have HK := Lib.hid hk
  have HLN := Lib.hid hL
  obtain ⟨_, ⟨_, hlen⟩, _⟩ := hv.at
  obtain ⟨n, hn2⟩ : ∃ n, hs.length = n := ⟨_, rfl⟩
  have HN := Lib.hid hn2
  rw [hn2] at HV hlen ⊢
  clear hv hk hL hn2
  go_enter Try.func6, Try.ntmps6
  go_wp2_with fail
  refine (speaks06 _).mono ?_
  rintro e w1 ⟨rfl, hc1⟩
  go_wp2_with fail
  refine (big06 _ _ hs (HV.out.keep hc1) HLN.out).mono ?_
  rintro e w2 ⟨rfl, hc2⟩
  have hc3 := hc1.seq hc2
  clear hc1 hc2
  cases hb : bigN hs with
  | true =>
    rw [bigZ_yes hb]
    go_wp2_with fail
    go_ret
    exact ⟨rfl, hc3.below⟩
  | false =>
    rw [bigZ_no hb]
    have HC := Lib.hid (bigN_count hb)
    clear hb
    go_wp2_with fail
    refine (copy_history _ _ hs (HV.out.keep hc3) (by have := HC.out; omega) (by have := HC.out; omega)).mono ?_
    rintro e w3 ⟨vc, U, rfl, hoc, hcA⟩
    have hc4 := hc3.seq hcA
    have HOC := Lib.hid hoc
    have hbc : w.heap.size ≤ w2.heap.size := hc3.size
    clear hcA hc3 hoc
    go_wp2_with fail
    refine (copy_history _ _ hs (HV.out.keep hc4) (by have := HC.out; omega) (by have := HC.out; omega)).mono ?_
    rintro e w4 ⟨vd, V, rfl, hod, hcA⟩
    have hc5 := hc4.seq hcA
    have HOC2 := Lib.hid (HOC.out.keep hcA)
    have HOD := Lib.hid hod
    have hsz3 : w3.heap.size ≤ w4.heap.size := hcA.size
    have HGC := Lib.hid (fun b hb => (HOC.out.row.lt b hb).2)
    have HGCU := Lib.hid (show ∀ j, j < n → ∀ b, (U j).ownBlock = some b → b < w3.heap.size from fun j hj b hb => ((HOC.out.ops j (by rw [HN.out]; exact hj)).ge b hb).2)
    clear hcA hc4 hod HOC
    obtain ⟨Ac, cc, hvc⟩ := HOC2.out.txns.shape
    rw [HN.out] at hvc
    subst hvc
    obtain ⟨Ad, cd, hvd⟩ := HOD.out.txns.shape
    rw [HN.out] at hvd
    subst hvd
    go_wp2_with fail
    refine (same_history _ _ _ hs hs HOC2.out.txns (HV.out.keep hc5)).mono ?_
    rintro e w5 ⟨q, rfl, hq, hcA⟩
    obtain rfl := hq.2 rfl
    have hc6 := hc5.seq hcA
    have HOC3 := Lib.hid (HOC2.out.keep hcA)
    have HOD2 := Lib.hid (HOD.out.keep hcA)
    clear hcA hc5 hq HOC2 HOD
    go_wp2_with fail
    refine (same_history _ _ _ hs hs (HV.out.keep hc6) HOC3.out.txns).mono ?_
    rintro e w6 ⟨q, rfl, hq, hcA⟩
    obtain rfl := hq.2 rfl
    have hc7 := hc6.seq hcA
    have HOC4 := Lib.hid (HOC3.out.keep hcA)
    have HOD3 := Lib.hid (HOD2.out.keep hcA)
    clear hcA hc6 hq HOC3 HOD2
    have hnn : ((n : Int) != (n : Int)) = false := by simp
    by_cases hn0 : n = 0
    · have h0 : ((n : Int) == 0) = true := by rw [hn0]; rfl
      go_wp2_with fail
      go_ret
      exact ⟨rfl, hc7.below⟩
    · have h0 : ((n : Int) == 0) = false := by simp; omega
      obtain ⟨q, hq⟩ : ∃ q : Nat, i % (n : Int) = (q : Int) := ⟨(i % (n : Int)).toNat, by have := Int.emod_nonneg i (show (n : Int) ≠ 0 by omega); omega⟩
      have hqn : q < n := by have := Int.emod_lt_of_pos i (show (0 : Int) < n by omega); omega
      have HOC5 : OwnT w6 w2.heap.size (.slice Ac n cc) hs U n := by have := HOC4.out; rw [HN.out] at this; exact this
      obtain ⟨gc, hgc⟩ : ∃ gc, Ac = some ⟨gc, 0, none⟩ := by
        rcases HOC5.row.2 with ⟨_, h⟩ | ⟨g, cap, cur, h, _⟩
        · exact absurd h hn0
        · simp only [Value.slice.injEq] at h
          exact ⟨g, h.1⟩
      obtain ⟨ac, hac⟩ : ∃ ac : Addr, ac = ⟨gc, 0, none⟩ := ⟨_, rfl⟩
      have HOC6 := Lib.hid (show OwnT w6 w2.heap.size (.slice (some ⟨gc, 0, none⟩) n cc) hs U n from by rw [← hgc]; exact HOC5)
      have hgw := HGC.out gc (by rw [hgc]; rfl)
      have hgw2 := (HOC6.out.row.lt gc rfl).1
      rw [← hac] at hgc
      subst hgc
      have HAC := Lib.hid hac
      have hcel := HOC6.out.cells q hqn
      clear HOC4 HOC5 hac
      obtain ⟨m1, hm1⟩ : ∃ m1 : Nat, (n : Int) - 1 = (m1 : Int) := ⟨n - 1, by omega⟩
      have hmn : m1 ≤ n := by omega
      have hmc : n ≤ cp := by have := HV.out.at; omega
      have HTK := Lib.hid (txns_take HV.out m1 hmn)
      have HTN := Lib.hid (show hs ≠ hs.take m1 from fun e => by
        have h1 := congrArg List.length e
        rw [List.length_take] at h1
        have := HN.out
        omega)
      by_cases hk0 : k % 4 = 0
      · have d0 : (k % 4 == 0) = true := by simp [hk0]
        clear hk0
        obtain ⟨T, hT⟩ : ∃ T, hs.getD q txrZero = T := ⟨_, rfl⟩
        rw [hT] at hcel
        have hokT := HK.out q (by rw [HN.out]; exact hqn)
        rw [hT] at hokT
        have hl0 : w6.cell? (ac.add (q * 4)) = some (.int .i64 T.ses) := by rw [HAC.out, own_add]; exact hcel.1
        have hf0 : w6.frozen? (ac.add (q * 4)) = false := by rw [HAC.out, own_add]; exact World.ownsRow.frozenAt HOC6.out.row _
        have hTX := HOC6.out.put_int (z := wrap64 (T.ses + 1)) (t := ⟨wrap64 (T.ses + 1), T.beg, T.com, T.ops⟩) (d := 0) HN.out hqn (by omega) (by rw [hT]) (by rw [hT]; try rfl) (by rw [hT]; try rfl) (by rw [hT]; try rfl)
        have hadr : (⟨gc, q * 4 + 0, none⟩ : Addr) = (ac.add (q * 4)) := by rw [HAC.out, own_add]; try rfl
        rw [hadr, ← HAC.out] at hTX
        have hcw0 : Ch (· = gc) w6 (w6.setCell (ac.add (q * 4)) (.int .i64 (wrap64 (T.ses + 1)))) := (Ch.refl _ _).setCell _ _ (fun _ => by rw [HAC.out, own_add])
        have hcw := hc7.fresh hcw0 (by omega)
        have HTX := Lib.hid hTX
        have HDX := Lib.hid ((HOD3.out.off hcw0 (.inl (by omega))).txns)
        have HNE := Lib.hid (set_ne (hs := hs) (t := ⟨wrap64 (T.ses + 1), T.beg, T.com, T.ops⟩) (at_ := q) (by rw [HN.out]; exact hqn) (by rw [hT]; exact fun e => wrap_ne hokT.2.1 (congrArg Txr.ses e)))
        clear hTX hadr hcw0 hokT hT hc7 HOD3 HOC6 hcel
        go_wp2_with fail
        refine (same_history _ _ _ _ hs HTX.out (HV.out.keep hcw)).mono ?_
        rintro e wa ⟨qa, rfl, hqa, hca⟩
        have hqa2 : qa = false := by
          cases qa with
          | false => rfl
          | true => exact absurd (hqa.1 rfl) HNE.out
        subst hqa2
        have hcw2 := hcw.seq hca
        have HTX2 := Lib.hid (HTX.out.keep hca)
        have HDX2 := Lib.hid (HDX.out.keep hca)
        clear hqa hca hcw HTX HDX
        go_wp2_with fail
        refine (same_history _ _ _ hs _ (HV.out.keep hcw2) HTX2.out).mono ?_
        rintro e wb ⟨qa, rfl, hqa, hca⟩
        have hqa2 : qa = false := by
          cases qa with
          | false => rfl
          | true => exact absurd (hqa.1 rfl).symm HNE.out
        subst hqa2
        have hcw3 := hcw2.seq hca
        have HDX3 := Lib.hid (HDX2.out.keep hca)
        clear hqa hca hcw2 HTX2 HDX2
        go_wp2_with fail
        refine (same_history _ _ _ hs hs HDX3.out (HV.out.keep hcw3)).mono ?_
        rintro e wc ⟨qa, rfl, hqa, hca⟩
        obtain rfl := hqa.2 rfl
        have hcw4 := hcw3.seq hca
        clear hqa hca hcw3 HDX3
        go_wp2_with fail
        refine (same_history _ _ _ hs _ (HV.out.keep hcw4) (HTK.out.keep hcw4)).mono ?_
        rintro e wd ⟨qa, rfl, hqa, hca⟩
        have hqa2 : qa = false := by
          cases qa with
          | false => rfl
          | true => exact absurd (hqa.1 rfl) HTN.out
        subst hqa2
        have hcw5 := hcw4.seq hca
        clear hqa hca hcw4
        go_wp2_with fail
        go_ret
        exact ⟨rfl, hcw5.below⟩
      · have d0 : (k % 4 == 0) = false := by simp [hk0]
        by_cases hk1 : k % 4 = 1
        · have d1 : (k % 4 == 1) = true := by simp [hk1]
          clear hk1 hk0
          obtain ⟨T, hT⟩ : ∃ T, hs.getD q txrZero = T := ⟨_, rfl⟩
          rw [hT] at hcel
          have hokT := HK.out q (by rw [HN.out]; exact hqn)
          rw [hT] at hokT
          have hl0 : w6.cell? ⟨(ac.add (q * 4)).block, (ac.add (q * 4)).off + 2, none⟩ = some (.int .i64 T.com) := by rw [HAC.out, own_add]; exact hcel.2.2.1
          have hf0 : w6.frozen? ⟨(ac.add (q * 4)).block, (ac.add (q * 4)).off + 2, none⟩ = false := by rw [HAC.out, own_add]; exact World.ownsRow.frozenAt HOC6.out.row _
          have hTX := HOC6.out.put_int (z := wrap64 (T.com + 1)) (t := ⟨T.ses, T.beg, wrap64 (T.com + 1), T.ops⟩) (d := 2) HN.out hqn (by omega) (by rw [hT]) (by rw [hT]; try rfl) (by rw [hT]; try rfl) (by rw [hT]; try rfl)
          have hadr : (⟨gc, q * 4 + 2, none⟩ : Addr) = ⟨(ac.add (q * 4)).block, (ac.add (q * 4)).off + 2, none⟩ := by rw [HAC.out, own_add]; try rfl
          rw [hadr, ← HAC.out] at hTX
          have hcw0 : Ch (· = gc) w6 (w6.setCell ⟨(ac.add (q * 4)).block, (ac.add (q * 4)).off + 2, none⟩ (.int .i64 (wrap64 (T.com + 1)))) := (Ch.refl _ _).setCell _ _ (fun _ => by rw [HAC.out, own_add])
          have hcw := hc7.fresh hcw0 (by omega)
          have HTX := Lib.hid hTX
          have HDX := Lib.hid ((HOD3.out.off hcw0 (.inl (by omega))).txns)
          have HNE := Lib.hid (set_ne (hs := hs) (t := ⟨T.ses, T.beg, wrap64 (T.com + 1), T.ops⟩) (at_ := q) (by rw [HN.out]; exact hqn) (by rw [hT]; exact fun e => wrap_ne hokT.2.2.2 (congrArg Txr.com e)))
          clear hTX hadr hcw0 hokT hT hc7 HOD3 HOC6 hcel
          go_wp2_with fail
          refine (same_history _ _ _ _ hs HTX.out (HV.out.keep hcw)).mono ?_
          rintro e wa ⟨qa, rfl, hqa, hca⟩
          have hqa2 : qa = false := by
            cases qa with
            | false => rfl
            | true => exact absurd (hqa.1 rfl) HNE.out
          subst hqa2
          have hcw2 := hcw.seq hca
          have HTX2 := Lib.hid (HTX.out.keep hca)
          have HDX2 := Lib.hid (HDX.out.keep hca)
          clear hqa hca hcw HTX HDX
          go_wp2_with fail
          refine (same_history _ _ _ hs _ (HV.out.keep hcw2) HTX2.out).mono ?_
          rintro e wb ⟨qa, rfl, hqa, hca⟩
          have hqa2 : qa = false := by
            cases qa with
            | false => rfl
            | true => exact absurd (hqa.1 rfl).symm HNE.out
          subst hqa2
          have hcw3 := hcw2.seq hca
          have HDX3 := Lib.hid (HDX2.out.keep hca)
          clear hqa hca hcw2 HTX2 HDX2
          go_wp2_with fail
          refine (same_history _ _ _ hs hs HDX3.out (HV.out.keep hcw3)).mono ?_
          rintro e wc ⟨qa, rfl, hqa, hca⟩
          obtain rfl := hqa.2 rfl
          have hcw4 := hcw3.seq hca
          clear hqa hca hcw3 HDX3
          go_wp2_with fail
          refine (same_history _ _ _ hs _ (HV.out.keep hcw4) (HTK.out.keep hcw4)).mono ?_
          rintro e wd ⟨qa, rfl, hqa, hca⟩
          have hqa2 : qa = false := by
            cases qa with
            | false => rfl
            | true => exact absurd (hqa.1 rfl) HTN.out
          subst hqa2
          have hcw5 := hcw4.seq hca
          clear hqa hca hcw4
          go_wp2_with fail
          go_ret
          exact ⟨rfl, hcw5.below⟩
        · have d1 : (k % 4 == 1) = false := by simp [hk1]
          by_cases hk3 : k % 4 = 2
          · have d2 : (k % 4 == 2) = true := by simp [hk3]
            clear hk3 hk1 hk0
            obtain ⟨T, hT⟩ : ∃ T, hs.getD q txrZero = T := ⟨_, rfl⟩
            rw [hT] at hcel
            have hou := HOC6.out.ops q hqn
            rw [hT] at hou
            obtain ⟨Au, cu, hU⟩ := hou.opl.shape
            have hadr : (⟨gc, q * 4 + 3, none⟩ : Addr) = ⟨(ac.add (q * 4)).block, (ac.add (q * 4)).off + 3, none⟩ := by rw [HAC.out, own_add]
            have hl0 : w6.cell? ⟨(ac.add (q * 4)).block, (ac.add (q * 4)).off + 3, none⟩ = some (.slice Au T.ops.length cu) := by rw [← hadr, ← hU]; exact hcel.2.2.2
            have HADR := Lib.hid hadr
            have hcZ : Ch nob w6 (w6.alloc (.cells #[.bool false, .int .i64 0, .int .i64 0] 35)) := (Ch.refl _ _).alloc _
            have HOZ := Lib.hid (HOC6.out.keep hcZ)
            have hnb := Lib.hid (Blk.new w6 #[.bool false, .int .i64 0, .int .i64 0] 35)
            have houZ := Lib.hid (show OwnO (w6.alloc (.cells #[.bool false, .int .i64 0, .int .i64 0] 35)) w2.heap.size 35 (.slice Au T.ops.length cu) T.ops from by rw [← hU]; exact hou.keep hcZ)
            have HTL := Lib.hid (show T.ops.length ≤ 1000000 from by
              have h1 := countTo_mono hs (show q + 1 ≤ hs.length by rw [HN.out]; omega)
              have h2 : countTo hs (q + 1) = countTo hs q + (hs.getD q txrZero).ops.length := rfl
              rw [hT] at h2
              have := HC.out
              omega)
            have HUQ := Lib.hid hU
            have hz26 : w2.heap.size ≤ w6.heap.size := by have := HOC6.out.row.lt gc rfl; omega
            have HTT := Lib.hid hT
            have hgr : ∀ w'', (w6.alloc (.cells #[.bool false, .int .i64 0, .int .i64 0] 35)).grownBy w'' (Value.slice Au T.ops.length cu).ownBlock → w''.cell? ⟨(ac.add (q * 4)).block, (ac.add (q * 4)).off + 3, none⟩ = some (.slice Au T.ops.length cu) ∧ w''.frozen? ⟨(ac.add (q * 4)).block, (ac.add (q * 4)).off + 3, none⟩ = false := fun w'' hg => by
              have hr := HOZ.out.row.kept hg (.inr (by
                intro e
                have := row_ne HOZ.out.row (HOZ.out.ops q hqn) gc rfl
                rw [HUQ.out] at this
                exact this e.symm))
              rw [← HADR.out]
              refine ⟨?_, World.ownsRow.frozenAt hr _⟩
              rw [World.ownsRow.cellAt hr _ (by omega), ← HUQ.out]
              exact (cellsT_at hs U n q hqn).2.2.2
            have HGR := Lib.hid hgr
            clear hgr hadr hcel hou hU hT hcZ
            go_wp2_with (at_builtin; refine wpList_append_op rfl (.tmp 101) (.tmp 103) 31 35 rfl elem_op w2.heap.size _ T.ops rfl houZ.out _ ⟨false, 0, 0⟩ 35 rfl (by simpa using hnb.out) HTL.out (by simp; omega) ?_; intro v7 w7 hown7 hg7; obtain ⟨A7, c7, hv7⟩ := (show ∃ A c, v7 = .slice A (T.ops.length + 1) c from by have h9 := hown7.opl.shape; simpa using h9); subst hv7; obtain ⟨hl7, hf7⟩ := HGR.out w7 hg7)
            have hg8 : (w6.alloc (.cells #[.bool false, .int .i64 0, .int .i64 0] 35)).grownBy w7 (U q).ownBlock := by rw [HUQ.out]; exact hg7
            have hTX := HOZ.out.put_ops (t := ⟨T.ses, T.beg, T.com, T.ops ++ [(⟨false, 0, 0⟩ : Opn)]⟩) HN.out hqn hg8 hown7 (by rw [HTT.out])
            rw [HADR.out, ← HAC.out] at hTX
            have hcA : Ch nob w w7 := (hc7.alloc (.cells #[.bool false, .int .i64 0, .int .i64 0] 35)).grown_own hg7 (fun b hb => by have := (houZ.out.ge b hb).1; omega)
            have hcw0 : Ch (· = gc) w7 (w7.setCell ⟨(ac.add (q * 4)).block, (ac.add (q * 4)).off + 3, none⟩ (.slice A7 (T.ops.length + 1) c7)) := (Ch.refl _ _).setCell _ _ (fun _ => by rw [← HADR.out])
            have hcw := hcA.fresh hcw0 (by omega)
            have HTX := Lib.hid hTX
            have hodz := (HOD3.out.keep ((Ch.refl nob w6).alloc (.cells #[.bool false, .int .i64 0, .int .i64 0] 35))).grown hg8 (fun b hb => .inl (by have := (HOC6.out.ops q hqn).ge b hb; have := HGCU.out q hqn b hb; omega))
            have HDX := Lib.hid ((hodz.off hcw0 (.inl (by omega))).txns)
            have HNE := Lib.hid (set_ne (hs := hs) (t := ⟨T.ses, T.beg, T.com, T.ops ++ [(⟨false, 0, 0⟩ : Opn)]⟩) (at_ := q) (by rw [HN.out]; exact hqn) (by rw [HTT.out]; exact fun e => by have h1 := congrArg (fun t => t.ops.length) e; simp at h1))
            clear hTX hcw0 hcA hodz hc7 HOD3 HOC6 hg8
            refine (same_history _ _ _ _ hs HTX.out (HV.out.keep hcw)).mono ?_
            rintro e wa ⟨qa, rfl, hqa, hca⟩
            have hqa2 : qa = false := by
              cases qa with
              | false => rfl
              | true => exact absurd (hqa.1 rfl) HNE.out
            subst hqa2
            have hcw2 := hcw.seq hca
            have HTX2 := Lib.hid (HTX.out.keep hca)
            have HDX2 := Lib.hid (HDX.out.keep hca)
            clear hqa hca hcw HTX HDX
            go_wp2_with fail
            refine (same_history _ _ _ hs _ (HV.out.keep hcw2) HTX2.out).mono ?_
            rintro e wb ⟨qa, rfl, hqa, hca⟩
            have hqa2 : qa = false := by
              cases qa with
              | false => rfl
              | true => exact absurd (hqa.1 rfl).symm HNE.out
            subst hqa2
            have hcw3 := hcw2.seq hca
            have HDX3 := Lib.hid (HDX2.out.keep hca)
            clear hqa hca hcw2 HTX2 HDX2
            go_wp2_with fail
            refine (same_history _ _ _ hs hs HDX3.out (HV.out.keep hcw3)).mono ?_
            rintro e wc ⟨qa, rfl, hqa, hca⟩
            obtain rfl := hqa.2 rfl
            have hcw4 := hcw3.seq hca
            clear hqa hca hcw3 HDX3
            go_wp2_with fail
            refine (same_history _ _ _ hs _ (HV.out.keep hcw4) (HTK.out.keep hcw4)).mono ?_
            rintro e wd ⟨qa, rfl, hqa, hca⟩
            have hqa2 : qa = false := by
              cases qa with
              | false => rfl
              | true => exact absurd (hqa.1 rfl) HTN.out
            subst hqa2
            have hcw5 := hcw4.seq hca
            clear hqa hca hcw4
            go_wp2_with fail
            go_ret
            exact ⟨rfl, hcw5.below⟩
          · have d2 : (k % 4 == 2) = false := by simp [hk3]
            clear hk3 hk1 hk0
            obtain ⟨T, hT⟩ : ∃ T, hs.getD q txrZero = T := ⟨_, rfl⟩
            rw [hT] at hcel
            have hou := HOC6.out.ops q hqn
            rw [hT] at hou
            obtain ⟨Au, cu, hU⟩ := hou.opl.shape
            obtain ⟨l, hl⟩ : ∃ l, T.ops.length = l := ⟨_, rfl⟩
            rw [hl] at hU
            have hl0 : w6.cell? ⟨(ac.add (q * 4)).block, (ac.add (q * 4)).off + 3, none⟩ = some (.slice Au l cu) := by rw [HAC.out, own_add, ← hU]; exact hcel.2.2.2
            have HL := Lib.hid hl
            have HUQ := Lib.hid hU
            have HTT := Lib.hid hT
            have HOU := Lib.hid hou
            clear hl hU hT hou hcel
            by_cases hl1 : l = 0
            · have d3 : ((l : Int) == 0) = true := by rw [hl1]; rfl
              go_wp2_with fail
              go_ret
              exact ⟨rfl, hc7.below⟩
            · have d3 : ((l : Int) == 0) = false := by simp; omega
              obtain ⟨p, hp⟩ : ∃ p : Nat, k % (l : Int) = (p : Int) := ⟨(k % (l : Int)).toNat, by have := Int.emod_nonneg k (show (l : Int) ≠ 0 by omega); omega⟩
              have hpl : p < l := by have := Int.emod_lt_of_pos k (show (0 : Int) < l by omega); omega
              obtain ⟨gu, hgu⟩ : ∃ gu, U q = .slice (some ⟨gu, 0, none⟩) l cu := by
                rcases HOU.out.2 with ⟨h, _⟩ | ⟨g, cap, cur, h, _⟩
                · rw [HUQ.out] at h
                  simp only [Value.slice.injEq] at h
                  omega
                · rw [HUQ.out] at h
                  simp only [Value.slice.injEq] at h
                  rw [HUQ.out, h.1]
                  exact ⟨g, rfl⟩
              obtain ⟨au, hau⟩ : ∃ au : Addr, au = ⟨gu, 0, none⟩ := ⟨_, rfl⟩
              have hAu : Au = some au := by
                have := HUQ.out
                rw [hgu] at this
                simp only [Value.slice.injEq] at this
                rw [hau]; exact this.1.symm
              subst hAu
              have HAU := Lib.hid hau
              have HGU := Lib.hid hgu
              have hx := (show Opl w6 (.slice (some ⟨gu, 0, none⟩) l cu) T.ops from by rw [← hgu]; exact HOU.out.opl).at.2.2 p (by rw [HL.out]; exact hpl)
              obtain ⟨x, hxx⟩ : ∃ x, T.ops.getD p opZero = x := ⟨_, rfl⟩
              rw [hxx] at hx
              have HXX := Lib.hid hxx
              have hva : w6.cell? ⟨(au.add (p * 3)).block, (au.add (p * 3)).off + 2, none⟩ = some (.int .i64 x.val) := by
                obtain ⟨ad, h1, _, _, h4⟩ := hx
                cases h1
                rw [HAU.out]; exact h4
              have hokx := (HK.out q (by rw [HN.out]; exact hqn)).1.2 p (by rw [HTT.out, HL.out]; exact hpl)
              rw [HTT.out, hxx] at hokx
              have HOX := Lib.hid hokx
              have HLC := Lib.hid hl0
              have HVA := Lib.hid hva
              have X0 := fun u : Ext _ => Ext.cell hl0 u
              have X1 := fun u : Ext _ => Ext.cell hva u
              clear hau hgu hx hxx hokx
              go_wp2_with fail
              refine wp_region_ch_tail 20 (by kernel_rfl) (by kernel_rfl) (Ch.refl nob w6) ?_
              simp only [List.take_succ_cons, List.take_zero, List.drop_succ_cons, List.drop_zero]
              repeat go_big_quiet_step (fail)
              refine wpQuiet_nil ?_
              rintro wq ⟨⟨wq, hcq⟩, rfl⟩
              have HOCq := Lib.hid (HOC6.out.keep hcq)
              have HODq := Lib.hid (HOD3.out.keep hcq)
              have hcW := hc7.seq hcq
              have hl2 : wq.cell? ⟨(au.add (p * 3)).block, (au.add (p * 3)).off + 2, none⟩ = some (.int .i64 x.val) := X1 ⟨wq, hcq⟩
              have hadr : (⟨gu, p * 3 + 2, none⟩ : Addr) = ⟨(au.add (p * 3)).block, (au.add (p * 3)).off + 2, none⟩ := by rw [HAU.out, own_add]
              have hf2 : wq.frozen? ⟨(au.add (p * 3)).block, (au.add (p * 3)).off + 2, none⟩ = false := by
                rw [← hadr]
                have h1 := HOCq.out.ops q hqn
                rw [HTT.out] at h1
                have h2 : wq.ownsRow w2.heap.size 35 3 (.slice (some ⟨gu, 0, none⟩) T.ops.length cu) T.ops.length (flatO T.ops) := by
                  have h3 : U q = .slice (some ⟨gu, 0, none⟩) T.ops.length cu := by rw [HGU.out, HL.out]
                  rw [← h3]; exact h1
                exact World.ownsRow.frozenAt h2 _
              have hTX := HOCq.out.put_val (z := wrap64 (x.val + 1)) (p := p) (x := x) (t := ⟨T.ses, T.beg, T.com, T.ops.set p ⟨x.wr, x.key, wrap64 (x.val + 1)⟩⟩) HN.out hqn HGU.out (by rw [HTT.out]; exact HL.out) hpl (by rw [HTT.out]; exact HXX.out) (by rw [HTT.out])
              rw [hadr, ← HAC.out] at hTX
              have hgu2 : w2.heap.size ≤ gu ∧ gu < w3.heap.size := ⟨((HOC6.out.ops q hqn).ge gu (by rw [HGU.out]; rfl)).1, HGCU.out q hqn gu (by rw [HGU.out]; rfl)⟩
              have hcw0 : Ch (· = gu) wq (wq.setCell ⟨(au.add (p * 3)).block, (au.add (p * 3)).off + 2, none⟩ (.int .i64 (wrap64 (x.val + 1)))) := (Ch.refl _ _).setCell _ _ (fun _ => by rw [← hadr])
              have hcw := hcW.fresh hcw0 (by omega)
              have HTX := Lib.hid hTX
              have HDX := Lib.hid ((HODq.out.off hcw0 (.inl (by omega))).txns)
              have HNE := Lib.hid (set_ne (hs := hs) (t := ⟨T.ses, T.beg, T.com, T.ops.set p ⟨x.wr, x.key, wrap64 (x.val + 1)⟩⟩) (at_ := q) (by rw [HN.out]; exact hqn) (by
                rw [HTT.out]
                intro e
                have h1 : T.ops.set p ⟨x.wr, x.key, wrap64 (x.val + 1)⟩ = T.ops := congrArg Txr.ops e
                have h2 := getD_setO T.ops ⟨x.wr, x.key, wrap64 (x.val + 1)⟩ p p (by rw [HL.out]; exact hpl)
                rw [if_pos rfl, h1, HXX.out] at h2
                exact wrap_ne HOX.out (congrArg Opn.val h2).symm))
              clear hTX hcw0 hcW hcq hc7 HOD3 HOC6 HOCq HODq X0 X1 hl0 hva
              go_wp2_with fail
              refine (same_history _ _ _ _ hs HTX.out (HV.out.keep hcw)).mono ?_
              rintro e wa ⟨qa, rfl, hqa, hca⟩
              have hqa2 : qa = false := by
                cases qa with
                | false => rfl
                | true => exact absurd (hqa.1 rfl) HNE.out
              subst hqa2
              have hcw2 := hcw.seq hca
              have HTX2 := Lib.hid (HTX.out.keep hca)
              have HDX2 := Lib.hid (HDX.out.keep hca)
              clear hqa hca hcw HTX HDX
              go_wp2_with fail
              refine (same_history _ _ _ hs _ (HV.out.keep hcw2) HTX2.out).mono ?_
              rintro e wb ⟨qa, rfl, hqa, hca⟩
              have hqa2 : qa = false := by
                cases qa with
                | false => rfl
                | true => exact absurd (hqa.1 rfl).symm HNE.out
              subst hqa2
              have hcw3 := hcw2.seq hca
              have HDX3 := Lib.hid (HDX2.out.keep hca)
              clear hqa hca hcw2 HTX2 HDX2
              go_wp2_with fail
              refine (same_history _ _ _ hs hs HDX3.out (HV.out.keep hcw3)).mono ?_
              rintro e wc ⟨qa, rfl, hqa, hca⟩
              obtain rfl := hqa.2 rfl
              have hcw4 := hcw3.seq hca
              clear hqa hca hcw3 HDX3
              go_wp2_with fail
              refine (same_history _ _ _ hs _ (HV.out.keep hcw4) (HTK.out.keep hcw4)).mono ?_
              rintro e wd ⟨qa, rfl, hqa, hca⟩
              have hqa2 : qa = false := by
                cases qa with
                | false => rfl
                | true => exact absurd (hqa.1 rfl) HTN.out
              subst hqa2
              have hcw5 := hcw4.seq hca
              clear hqa hca hcw4
              go_wp2_with fail
              go_ret
              exact ⟨rfl, hcw5.below⟩
      end Go.Proofs.Ytobfanodjdkkoaa
end
