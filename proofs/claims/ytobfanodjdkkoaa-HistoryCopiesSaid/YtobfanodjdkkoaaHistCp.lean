/- A history apart (history.Copy): rows of transactions of a call's own. No condition but each theorem's own. -/
import Derived.Test.YtobfanodjdkkoaaHistL1
set_option linter.unusedVariables false
set_option linter.unusedSimpArgs false
namespace Go.Proofs.Ytobfanodjdkkoaa
open Go.RowKit Go.Maps

theorem flatO_one : ∀ (l : List Opn), ∀ u ∈ flatO l, u.oneCell' = true
  | [], u, h => by cases h
  | p :: l, u, h => by
    simp only [flatO, List.mem_cons] at h
    rcases h with rfl | rfl | rfl | h
    · rfl
    · rfl
    · rfl
    · exact flatO_one l u h
/-- 'append(s, x...)', x without a row. -/
theorem wpList_append_void {P : Program} {w : World} {ops : Array Oper} {rest : List Oper} {o : Oper} {a : Act} {Q : Exit → Act → World → Prop} (hgd : o.guard = none) (s x : Operand) (t : TypeId)
    (ho : o.op = .call { callee := .builtin .append, args := #[s, x], argTypes := #[t, t] })
    (base : Nat) (e : TypeId) (i : TypeInfo) (size : Nat) (ht : P.underlying t = some (.slice e)) (hi : P.info? e = some i)
    (v : Value) (n c : Nat) (xs : List Value) (hs : a.eval s = v) (hown : w.ownsRow base e size v n xs) (hx : a.eval x = .slice none 0 c)
    (h : wpList P ops Q rest (a.put o.dst v) w) : wpList P ops Q (o :: rest) a w := by
  refine wpList_plain hgd fun K hK => ?_
  have hrun : (Builtin.append_ #[t, t] o.type #[v, .slice none 0 c]).run P w = .ok v w := by
    rcases hown.2 with ⟨rfl, rfl⟩ | ⟨g, cap, cur, rfl, _, _, hnc, _⟩
    · simp [Builtin.append_, run_underlying ht, sizeOf, typeInfo, hi, Builtin.lenOf, Builtin.firstCells]
    · simp [Builtin.append_, run_underlying ht, sizeOf, typeInfo, hi, Builtin.lenOf, Builtin.firstCells, hnc, storeCells]
  unfold Oper.wp
  simp [execOp, ho, resolve, invoke, builtin, hs, hx, hrun, Result.andThen]
  exact hK _ _ h
/-- 'append(s, x...)', x operations that came in. -/
theorem wpList_append_opl {P : Program} {w : World} {ops : Array Oper} {rest : List Oper} {o : Oper} {a : Act} {Q : Exit → Act → World → Prop} (hgd : o.guard = none) (s x : Operand) (t e : TypeId)
    (ho : o.op = .call { callee := .builtin .append, args := #[s, x], argTypes := #[t, t] }) (he : ElemOK P t e (.agg #[.bool false, .int .i64 0, .int .i64 0]) 3 24)
    (base : Nat) (v : Value) (xs : List Opn) (hs : a.eval s = v) (hown : OwnO w base e v xs)
    (u : Value) (ys : List Opn) (hx : a.eval x = u) (hsrc : Opl w u ys) (hn : xs.length ≤ 1000000) (hm : ys.length ≤ 1000000) (hbase : base ≤ w.heap.size)
    (h : ∀ v' w', OwnO w' base e v' (xs ++ ys) → w.grownBy w' v.ownBlock → wpList P ops Q rest (a.put o.dst v') w') : wpList P ops Q (o :: rest) a w := by
  obtain ⟨i, hi, hz0, hz1, hz2⟩ := he.get
  have hfin : ∀ v' w', w'.ownsRow base e 3 v' (xs.length + ys.length) (flatO xs ++ flatO ys) → w.grownBy w' v.ownBlock → wpList P ops Q rest (a.put o.dst v') w' := fun v' w' h1 h2 => h v' w' (by unfold OwnO; rw [flatO_append, List.length_append]; exact h1) h2
  obtain ⟨A, c, hu, hl, hcell⟩ := hsrc
  cases hA : A with
  | none =>
    have h0 : ys = [] := by
      cases ys with
      | nil => rfl
      | cons y l =>
        obtain ⟨ad, h2, _⟩ := hcell (by simp)
        rw [hA] at h2; cases h2
    subst h0
    rw [hA] at hu
    refine wpList_append_void hgd s x t ho base e i 3 he.under hi v xs.length c _ hs hown (hx.trans hu) ?_
    exact h v w (by simpa using hown) ⟨rfl, rfl, rfl, Nat.le_refl _, fun _ _ _ => rfl⟩
  | some ad =>
    rw [hA] at hu
    refine wpList_append_own w hgd s x t ho base e i _ 3 24 he.under hi hz0 hz1 hz2 rfl (by decide) v xs.length _ hs hown ad ys.length c (flatO ys) (hx.trans hu) (flatO_len ys) ?_ (flatO_one ys) (by unfold maxLen; omega) (by omega) hbase (fun v' w' h1 h2 _ => hfin v' w' h1 h2)
    intro j x hj
    have hjl : j < ys.length * 3 := by rw [← flatO_len]; exact (List.getElem?_eq_some_iff.1 hj).1
    obtain ⟨ad2, h2, h3⟩ := hcell (by omega)
    rw [hA] at h2
    cases h2
    have hq : j / 3 < ys.length := by omega
    obtain ⟨g0, g1, g2⟩ := h3 (j / 3) hq
    obtain ⟨f0, f1, f2⟩ := flatO_at ys (j / 3) hq
    have h4 : j % 3 = 0 ∨ j % 3 = 1 ∨ j % 3 = 2 := by omega
    rcases h4 with h4 | h4 | h4
    · have e1 : j / 3 * 3 = j := by omega
      rw [e1] at g0 f0
      rw [f0] at hj; cases hj
      exact g0
    · have e1 : j / 3 * 3 + 1 = j := by omega
      rw [add_next _ _ _ (by omega), e1] at g1
      rw [e1] at f1
      rw [f1] at hj; cases hj
      exact g1
    · have e1 : j / 3 * 3 + 2 = j := by omega
      rw [add_next _ _ _ (by omega), e1] at g2
      rw [e1] at f2
      rw [f2] at hj; cases hj
      exact g2
theorem ch_of_grown_none {w w' : World} (h : w.grownBy w' none) : Ch nob w w' := ⟨h.os, h.tape, h.output, h.size, fun k hk _ => h.block k hk (by simp)⟩
/-! ### Rows of transactions of a call's own -/
def cellsT (hs : List Txr) (U : Nat → Value) : Nat → List Value
  | 0 => []
  | i + 1 => cellsT hs U i ++ [.int .i64 (hs.getD i txrZero).ses, .int .i64 (hs.getD i txrZero).beg, .int .i64 (hs.getD i txrZero).com, U i]
theorem cellsT_len (hs : List Txr) (U : Nat → Value) : ∀ i, (cellsT hs U i).length = i * 4
  | 0 => rfl
  | i + 1 => by unfold cellsT; rw [List.length_append, cellsT_len hs U i]; simp; omega
theorem cellsT_at (hs : List Txr) (U : Nat → Value) : ∀ i j, j < i → (cellsT hs U i)[j * 4]? = some (.int .i64 (hs.getD j txrZero).ses) ∧ (cellsT hs U i)[j * 4 + 1]? = some (.int .i64 (hs.getD j txrZero).beg) ∧ (cellsT hs U i)[j * 4 + 2]? = some (.int .i64 (hs.getD j txrZero).com) ∧ (cellsT hs U i)[j * 4 + 3]? = some (U j)
  | 0, j, h => by omega
  | i + 1, j, h => by
    unfold cellsT
    by_cases e : j = i
    · subst e
      have hl := cellsT_len hs U j
      refine ⟨?_, ?_, ?_, ?_⟩
      · rw [List.getElem?_append_right (by omega), show j * 4 - (cellsT hs U j).length = 0 by omega]; rfl
      · rw [List.getElem?_append_right (by omega), show j * 4 + 1 - (cellsT hs U j).length = 1 by omega]; rfl
      · rw [List.getElem?_append_right (by omega), show j * 4 + 2 - (cellsT hs U j).length = 2 by omega]; rfl
      · rw [List.getElem?_append_right (by omega), show j * 4 + 3 - (cellsT hs U j).length = 3 by omega]; rfl
    · have hl := cellsT_len hs U i
      have := cellsT_at hs U i j (by omega)
      rw [List.getElem?_append_left (by omega), List.getElem?_append_left (by omega), List.getElem?_append_left (by omega), List.getElem?_append_left (by omega)]
      exact this
theorem cellsT_same (hs : List Txr) {U V : Nat → Value} : ∀ {i}, (∀ j, j < i → U j = V j) → cellsT hs U i = cellsT hs V i
  | 0, _ => rfl
  | i + 1, h => by
    unfold cellsT
    rw [cellsT_same hs (fun j hj => h j (by omega)), h i (by omega)]
/-- A row of the call's own that holds the first n transactions, each with its operations in a row of its own. -/
structure OwnT (w : World) (base : Nat) (v : Value) (hs : List Txr) (U : Nat → Value) (n : Nat) : Prop where
  row : w.ownsRow base 33 4 v n (cellsT hs U n)
  ops : ∀ j, j < n → OwnO w base 35 (U j) (hs.getD j txrZero).ops
  apart : ∀ i j, i < n → j < n → i ≠ j → ∀ b, (U i).ownBlock = some b → (U j).ownBlock ≠ some b
theorem row_ne {w : World} {b1 b2 n m s1 s2 : Nat} {v u : Value} {xs ys : List Value} (h : w.ownsRow b1 33 s1 v n xs) (k : w.ownsRow b2 35 s2 u m ys) (b : Nat) (hb : v.ownBlock = some b) : u.ownBlock ≠ some b := by
  rcases h.2 with ⟨hv, _⟩ | ⟨g, _, _, hv, _, hg, _⟩
  · rw [hv] at hb; cases hb
  · rcases k.2 with ⟨hu, _⟩ | ⟨g2, _, _, hu, _, hg2, _⟩
    · rw [hu]; intro e; cases e
    · rw [hv] at hb
      rw [hu]
      intro e
      have e1 : g = b := by simpa [Value.ownBlock] using hb
      have e2 : g2 = b := by simpa [Value.ownBlock] using e
      rw [e1] at hg
      rw [e2, hg] at hg2
      simp at hg2
theorem OwnT.grown {w w' : World} {base : Nat} {v : Value} {hs : List Txr} {U : Nat → Value} {n : Nat} {row : Option Nat} (h : OwnT w base v hs U n) (hg : w.grownBy w' row) (hne : ∀ b, row = some b → b < base ∨ w.heap.size ≤ b) : OwnT w' base v hs U n := by
  refine ⟨h.row.kept hg ?_, fun j hj => (h.ops j hj).grown hg ?_, h.apart⟩
  · cases hv : v.ownBlock with
    | none => exact .inl rfl
    | some b =>
      refine .inr fun e => ?_
      have := h.row.lt b hv
      have := hne b e.symm
      omega
  · intro b hb e
    have := (h.ops j hj).ge b hb
    have := hne b e
    omega
theorem OwnT.keep {w w' : World} {base : Nat} {v : Value} {hs : List Txr} {U : Nat → Value} {n : Nat} (h : OwnT w base v hs U n) (hc : Ch nob w w') : OwnT w' base v hs U n := h.grown (grown_of_ch hc none) (fun b e => by cases e)
theorem OwnT.off {w w' : World} {base g : Nat} {v : Value} {hs : List Txr} {U : Nat → Value} {n : Nat} (h : OwnT w base v hs U n) (hc : Ch (· = g) w w') (hg : g < base ∨ w.heap.size ≤ g) : OwnT w' base v hs U n := h.grown (grown_of_ch1 hc) (fun b e => by cases e; exact hg)
theorem OwnT.txns {w : World} {base : Nat} {v : Value} {hs : List Txr} {U : Nat → Value} (h : OwnT w base v hs U hs.length) : Txns w v hs := by
  have h0 := h.row.2
  rcases h0 with ⟨hv, hn⟩ | ⟨g, cap, cur, hv, hb, hg, hle2, hcap, hsz, htake⟩
  · exact ⟨none, 0, by rw [hv, hn], by omega, fun h => by omega⟩
  · refine ⟨_, _, hv, ⟨hle2, by unfold maxLen at hcap; omega⟩, fun h0 => ⟨_, rfl, fun j hj => ⟨U j, ?_⟩⟩⟩
    have hc := World.ownsRow.cells h.row (g := g) (by rw [hv]; rfl)
    have hf := cellsT_at hs U _ j hj
    rw [add_next _ _ _ (by omega), add_next _ _ _ (by omega), add_next _ _ _ (by omega)]
    exact ⟨hc _ _ hf.1, hc _ _ hf.2.1, hc _ _ hf.2.2.1, hc _ _ hf.2.2.2, (h.ops j hj).opl⟩
theorem OwnT.snoc {w w' : World} {base b1 i : Nat} {y y' u : Value} {hs : List Txr} {U : Nat → Value} {t : Txr} (h : OwnT w base y hs U i) (hx : hs.getD i txrZero = t) (hu : OwnO w b1 35 u t.ops) (hb : ∀ j, j < i → ∀ b, (U j).ownBlock = some b → b < b1) (hbase : base ≤ b1)
    (hr : w'.ownsRow base 33 4 y' (i + 1) (cellsT hs U i ++ [.int .i64 t.ses, .int .i64 t.beg, .int .i64 t.com, u])) (hg : w.grownBy w' y.ownBlock) : OwnT w' base y' hs (fun j => if j = i then u else U j) (i + 1) := by
  have hlt : ∀ j, j < i → (if j = i then u else U j) = U j := fun j hj => if_neg (by omega)
  refine ⟨?_, fun j hj => ?_, fun j k hj hk hne b hb1 => ?_⟩
  · show w'.ownsRow _ _ _ _ _ (cellsT hs (fun j => if j = i then u else U j) i ++ [_, _, _, (if i = i then u else U i)])
    rw [cellsT_same hs (V := U) (fun j hj => hlt j hj), if_pos rfl, hx]
    exact hr
  · by_cases e : j = i
    · subst e
      rw [if_pos rfl, hx]
      exact (hu.grown hg (fun b h1 h2 => row_ne h.row hu b h2 h1)).base hbase
    · rw [if_neg e]
      exact (h.ops j (by omega)).grown hg (fun b h1 h2 => row_ne h.row (h.ops j (by omega)) b h2 h1)
  · have hb1 : (if j = i then u else U j).ownBlock = some b := hb1
    show (if k = i then u else U k).ownBlock ≠ some b
    by_cases e1 : j = i
    · rw [if_pos e1] at hb1
      by_cases e2 : k = i
      · omega
      · rw [if_neg e2]
        intro h2
        have := hb k (by omega) b h2
        have := (hu.ge b hb1).1
        omega
    · rw [if_neg e1] at hb1
      by_cases e2 : k = i
      · rw [if_pos e2]
        intro h2
        have := hb j (by omega) b hb1
        have := (hu.ge b h2).1
        omega
      · rw [if_neg e2]
        exact h.apart j k (by omega) (by omega) hne b hb1
theorem elem_txn : ElemOK Try.prog 22 33 (.agg #[.int .i64 0, .int .i64 0, .int .i64 0, .slice none 0 0]) 4 48 := ⟨by kernel_rfl, by kernel_rfl⟩
/-- 'make([]Txn, 0, c)'. -/
theorem wpList_make_txn {w : World} {ops : Array Oper} {rest : List Oper} {o : Oper} {a : Act} {Q : Exit → Act → World → Prop} (hgd : o.guard = none) (l c : Operand) (ho : o.op = Op.makeSlice 22 l c)
    (base : Nat) (n : Nat) (hl : a.eval l = .int .i64 0) (hc : a.eval c = .int .i64 n) (hn : n ≤ 1000000) (hbase : base ≤ w.heap.size)
    (h : ∀ w', w'.ownsRow base 33 4 (.slice (some ⟨w.heap.size, 0, none⟩) 0 n) 0 [] → Ch nob w w' → wpList Try.prog ops Q rest (a.put o.dst (.slice (some ⟨w.heap.size, 0, none⟩) 0 n)) w') : wpList Try.prog ops Q (o :: rest) a w := by
  obtain ⟨i, hi, hz0, hz1, hz2⟩ := elem_txn.get
  exact wpList_make_own w hgd l c 22 ho base 33 i _ 4 elem_txn.under hi hz0 hz1 .i64 .i64 n n hl hc rfl (by rw [hz2]; omega) (by unfold maxLen; omega) hbase (fun w' h1 h2 => h w' h1 ⟨h2.os, h2.tape, h2.output, h2.size, fun k hk _ => h2.block k hk (by simp)⟩)
/-- 'append(s, t)', t a transaction. -/
theorem wpList_append_txn {w : World} {ops : Array Oper} {rest : List Oper} {o : Oper} {a : Act} {Q : Exit → Act → World → Prop} (hgd : o.guard = none) (s x : Operand)
    (ho : o.op = .call { callee := .builtin .append, args := #[s, x], argTypes := #[22, 22] })
    (base : Nat) (v : Value) (n : Nat) (xs : List Value) (hs : a.eval s = v) (hown : w.ownsRow base 33 4 v n xs)
    (g : Nat) (p q r : Int) (A : Option Addr) (l c : Nat) (T : TypeId) (hx : a.eval x = .slice (some ⟨g, 0, none⟩) 1 1) (hb : Blk w g #[.int .i64 p, .int .i64 q, .int .i64 r, .slice A l c] T) (hn : n ≤ 1000000) (hbase : base ≤ w.heap.size)
    (h : ∀ v' w', w'.ownsRow base 33 4 v' (n + 1) (xs ++ [.int .i64 p, .int .i64 q, .int .i64 r, .slice A l c]) → w.grownBy w' v.ownBlock → wpList Try.prog ops Q rest (a.put o.dst v') w') : wpList Try.prog ops Q (o :: rest) a w :=
  wpList_append1 hgd s x 22 33 ho _ 4 48 elem_txn rfl (by decide) (by decide) base v n xs hs hown g _ T hx hb rfl (by intro u hu; simp at hu; rcases hu with rfl | rfl | rfl | rfl <;> rfl) (by omega) hbase h
/-- What a copy is. -/
def RetCopy (w : World) (hs : List Txr) (e : Ending) (w' : World) : Prop := ∃ v U, e = .returned v ∧ OwnT w' w.heap.size v hs U hs.length ∧ Ch nob w w'
set_option maxRecDepth 100000 in
set_option maxHeartbeats 4000000 in
theorem copy_history (w : World) (v : Value) (hs : List Txr) (hv : Txns w v hs) (hn : countTo hs hs.length ≤ 1000000) (hm : hs.length ≤ 1000000) : Calls Try.prog 20 #[v] w (RetCopy w hs) := by
  obtain ⟨A, cp, rfl⟩ := hv.shape
  have HV := Lib.hid hv
  obtain ⟨n, hn2⟩ : ∃ n, hs.length = n := ⟨_, rfl⟩
  have HN := Lib.hid hn2
  rw [hn2] at HV hn hm ⊢
  have HC := Lib.hid hn
  clear hv hn2 hn
  go_enter Try.func20, Try.ntmps20
  go_wp2_with (at_make; refine wpList_make_txn rfl _ _ rfl w.heap.size n rfl rfl hm (Nat.le_refl _) ?_; intro w0 ho0 hc0)
  have HO0 := Lib.hid (show OwnT w0 w.heap.size (.slice (some ⟨w.heap.size, 0, none⟩) 0 n) hs (fun _ => undef) 0 from ⟨ho0, fun j hj => by omega, fun i j hi => by omega⟩)
  clear ho0
  go_loopw [11, 3] (fun x y wr => ∃ (i : Nat) (U : Nat → Value), x = .int .i64 i ∧ i ≤ n ∧ Hid (OwnT wr w.heap.size y hs U i) ∧ Ch nob w wr) (fun x _ _ => n - (intOf x).toNat)
  case atStart => exact ⟨0, _, rfl, Nat.zero_le _, HO0, hc0⟩
  case round =>
    clear HO0 hc0
    obtain ⟨i, U, rfl, hi, ho, hc⟩ := hrel
    by_cases hlt : i < n
    · have hd : decide ((i : Int) < (n : Int)) = true := decide_eq_true (by omega)
      obtain ⟨ad, u, rfl, hx0, hx1, hx2, hx3, hu⟩ := HV.out.both hc i (by rw [HN.out]; exact hlt)
      have hle := countTo_mono hs (show i + 1 ≤ n by omega)
      have hcs : countTo hs (i + 1) = countTo hs i + (hs.getD i txrZero).ops.length := rfl
      obtain ⟨T, hT⟩ : ∃ T, hs.getD i txrZero = T := ⟨_, rfl⟩
      rw [hT] at hx0 hx1 hx2 hu hcs
      have HX := Lib.hid hT
      obtain ⟨ts, tb, tc, xs⟩ := T
      dsimp only at hx0 hx1 hx2 hu hcs
      obtain ⟨A2, c2, rfl⟩ := hu.shape
      have hxl : xs.length ≤ 1000000 := by have := HC.out; omega
      have hcA : Ch nob wr (wr.alloc (.cells #[.int .i64 ts, .int .i64 tb, .int .i64 tc, .slice A2 xs.length c2] 33)) := (Ch.refl _ _).alloc _
      have hu1 := (hu.keep hc).keep hcA
      have ho1 := Lib.hid (ho.out.keep hcA)
      have hc1 := hc.seq hcA
      have hb1 := Lib.hid (Blk.new wr #[.int .i64 ts, .int .i64 tb, .int .i64 tc, .slice A2 xs.length c2] 33)
      clear hT hu hle hcs
      have hio := Lib.hid (show i ≤ 1000000 by omega)
      go_wp2_with (first
        | (at_builtin; refine wpList_append_opl rfl (.const (.slice none 0 0)) (.tmp 16) 31 35 rfl elem_op (wr.heap.size + 1) _ [] rfl (OwnO.nil _ _ _) _ xs rfl hu1 (by simp) hxl (by simp) ?_; intro v3 w3 hown3 hg3; obtain ⟨A3, c3, hv3⟩ := (show ∃ A c, v3 = .slice A xs.length c from hown3.opl.shape); subst hv3; have hg4 : (wr.alloc (.cells #[.int .i64 ts, .int .i64 tb, .int .i64 tc, .slice A2 xs.length c2] 33)).grownBy w3 none := hg3; have hb3 := hb1.out.grown hg4 (fun e => by cases e); have hp3 := hb3.cell (i := 3) (v := .slice A2 xs.length c2) rfl; have hfr := hb3.free 3; have hb4 := hb3.set 3 (.slice A3 xs.length c3); have hs4 : Ch (· = wr.heap.size) w3 (w3.setCell ⟨wr.heap.size, 3, none⟩ (.slice A3 xs.length c3)) := (Ch.refl _ _).setCell _ _ (fun _ => rfl); have hc4 := ((hcA.seq (ch_of_grown_none hg4)).fresh hs4 (Nat.le_refl _)).alloc (.cells #[.int .i64 ts, .int .i64 tb, .int .i64 tc, .slice A3 xs.length c3] 33); have ho5 := Lib.hid (ho.out.keep hc4); have hown5 := Lib.hid (((show OwnO w3 (wr.heap.size + 1) 35 (.slice A3 xs.length c3) xs from hown3).off hs4 (fun b hb => by have := (OwnO.ge hown3 b hb).1; omega)).alloc (.cells #[.int .i64 ts, .int .i64 tb, .int .i64 tc, .slice A3 xs.length c3] 33)); have hnb := Lib.hid (Blk.new (w3.setCell ⟨wr.heap.size, 3, none⟩ (.slice A3 xs.length c3)) #[.int .i64 ts, .int .i64 tb, .int .i64 tc, .slice A3 xs.length c3] 33))
        | (refine wpList_load_row rfl 33 (.tmp 5) rfl wr.heap.size rfl 33 #[.int .i64 ts, .int .i64 tb, .int .i64 tc, .slice A3 xs.length c3] (0, 0) _ hb4 rfl rfl (by kernel_rfl) ?_)
        | (at_builtin; refine wpList_append_txn rfl (.tmp 19) (.tmp 21) rfl w.heap.size _ i _ rfl ho5.out.row _ ts tb tc A3 xs.length c3 33 rfl (by simpa using hnb.out) hio.out (Nat.le_trans hc.size hc4.size) ?_; intro v6 w6 hrow6 hg6; have ho6 := ho5.out.snoc HX.out hown5.out (fun j hj b hb => by have := ((ho.out.ops j hj).ge b hb).2; omega) (Nat.le_trans hc.size (Nat.le_succ _)) hrow6 hg6; have hc6 := (hc.seq hc4).grown_own hg6 (fun b hb => (ho5.out.row.lt b hb).1)))
      exact ⟨⟨i + 1, _, by go_num, by omega, Lib.hid ho6, hc6⟩, by simp [intOf]; omega⟩
    · have hd : decide ((i : Int) < (n : Int)) = false := decide_eq_false (by omega)
      obtain rfl : i = n := by omega
      go_wp2_with fail
      go_ret
      exact ⟨_, U, rfl, by rw [HN.out]; exact ho.out, hc⟩
end Go.Proofs.Ytobfanodjdkkoaa
