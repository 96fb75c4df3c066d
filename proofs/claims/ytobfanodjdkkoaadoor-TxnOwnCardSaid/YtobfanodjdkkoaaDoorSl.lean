/- Slices that are read as lists, and rows of a call's own that are appended to. No condition. -/
import Derived.Test.YtobfanodjdkkoaaDoorArr
import Derived.Laws.AppendOwnNone
set_option linter.unusedVariables false
set_option linter.unusedSimpArgs false
namespace Go.Proofs.YtobfanodjdkkoaaDoor
open Go.RowKit

/-- A slice value reads as this list of ints (of one kind); nil and empty ones alike. -/
def IntsK (k : IntKind) (w : World) (v : Value) (xs : List Int) : Prop :=
  ∃ A c, v = .slice A xs.length c ∧ (xs.length ≤ c ∧ xs.length ≤ 9223372036854775807) ∧ (0 < xs.length → ∃ ad, A = some ad ∧ ∀ j, j < xs.length → w.cell? (ad.add j) = some (.int k (xs.getD j 0)))
abbrev Ints := IntsK .i64
theorem add_block (a : Addr) (j : Nat) : (a.add j).block = a.block := by unfold Addr.add; split <;> rfl
theorem IntsK.ch {k : IntKind} {S : Nat → Prop} {w w' : World} {v : Value} {xs : List Int} (h : IntsK k w v xs) (hc : Ch S w w') (hn : ∀ b, v.ownBlock = some b → ¬ S b) : IntsK k w' v xs := by
  obtain ⟨A, c, rfl, hl, hx⟩ := h
  refine ⟨A, c, rfl, hl, fun h0 => ?_⟩
  obtain ⟨ad, rfl, hcell⟩ := hx h0
  refine ⟨ad, rfl, fun j hj => ?_⟩
  have h1 := hcell j hj
  have hb := World.block_lt_of_cell? w _ h1
  rw [add_block] at hb
  exact (World.cell?_of_block (by rw [add_block]; exact hc.block _ hb (hn _ rfl))).trans h1
theorem IntsK.keep {k : IntKind} {w w' : World} {v : Value} {xs : List Int} (h : IntsK k w v xs) (hc : Ch nob w w') : IntsK k w' v xs := h.ch hc (fun _ _ h => h)
theorem IntsK.nil (k : IntKind) (w : World) (A : Option Addr) (c : Nat) : IntsK k w (.slice A 0 c) [] := ⟨A, c, rfl, by simp, fun h => absurd h (by simp)⟩
theorem IntsK.len {k : IntKind} {w : World} {v : Value} {xs : List Int} (h : IntsK k w v xs) : xs.length ≤ 9223372036854775807 := by
  obtain ⟨_, _, _, h, _⟩ := h; exact h.2
theorem IntsK.cap {k : IntKind} {w : World} {A : Option Addr} {n c : Nat} {xs : List Int} (h : IntsK k w (.slice A n c) xs) : xs.length ≤ c := by
  obtain ⟨_, _, hv, h, _⟩ := h
  simp only [Value.slice.injEq] at hv
  obtain ⟨_, _, rfl⟩ := hv
  exact h.1

/-- Rows of a call's own: what is known of the new block of one element that an append makes. -/
structure ElemOK (P : Program) (t e : TypeId) (z : Value) (size bytes : Nat) : Prop where
  under : P.underlying t = some (.slice e)
  info : (P.info? e).map (fun i => (i.zero, i.size, i.bytes)) = some (some z, size, bytes)

theorem ElemOK.get {P : Program} {t e : TypeId} {z : Value} {size bytes : Nat} (h : ElemOK P t e z size bytes) : ∃ i, P.info? e = some i ∧ i.zero = some z ∧ i.size = size ∧ i.bytes = bytes := by
  have h1 := h.info
  cases hi : P.info? e with
  | none => simp [hi] at h1
  | some i =>
    simp only [hi, Option.map_some, Option.some.injEq, Prod.mk.injEq] at h1
    exact ⟨i, rfl, h1.1, h1.2.1, h1.2.2⟩

/-- 'append(s, x)': one element behind a row of the call's own. -/
theorem wpList_append1 {P : Program} {w : World} {ops : Array Oper} {rest : List Oper} {o : Oper} {a : Act} {Q : Exit → Act → World → Prop} (hgd : o.guard = none) (s x : Operand) (t e : TypeId)
    (ho : o.op = .call { callee := .builtin .append, args := #[s, x], argTypes := #[t, t] }) (z : Value) (size bytes : Nat) (he : ElemOK P t e z size bytes) (hz : z.cells.size = size) (hsz : 0 < size) (hby : bytes ≤ 1000)
    (base : Nat) (v : Value) (n : Nat) (xs : List Value) (hs : a.eval s = v) (hown : w.ownsRow base e size v n xs)
    (g : Nat) (news : Array Value) (T : TypeId) (hx : a.eval x = .slice (some ⟨g, 0, none⟩) 1 1) (hb : Blk w g news T) (hl : news.size = size) (h1 : ∀ u ∈ news.toList, u.oneCell' = true) (hn : n ≤ 100000000000) (hbase : base ≤ w.heap.size)
    (h : ∀ v' w', w'.ownsRow base e size v' (n + 1) (xs ++ news.toList) → w.grownBy w' v.ownBlock → wpList P ops Q rest (a.put o.dst v') w') : wpList P ops Q (o :: rest) a w := by
  obtain ⟨i, hi, hz0, hz1, hz2⟩ := he.get
  refine wpList_append_own w hgd s x t ho base e i z size bytes he.under hi hz0 hz1 hz2 hz hsz v n xs hs hown ⟨g, 0, none⟩ 1 1 news.toList hx (by simp [hl]) ?_ ?_ (by unfold maxLen; omega) ?_ hbase (fun v' w' h1 h2 _ => h v' w' h1 h2)
  · intro j u hu
    rw [show (⟨g, 0, none⟩ : Addr).add j = ⟨g, j, none⟩ from by unfold Addr.add; split <;> simp_all]
    exact hb.cell (by simpa using hu)
  · exact h1
  · exact Nat.le_trans (Nat.mul_le_mul (show n + 1 ≤ 100000000001 by omega) hby) (by decide)

/-- A row of the call's own as a list of ints. -/
def OwnK (k : IntKind) (w : World) (base e : Nat) (v : Value) (xs : List Int) : Prop := w.ownsRow base e 1 v xs.length (xs.map (.int k))
abbrev Own := OwnK .i64
theorem OwnK.ints {k : IntKind} {w : World} {base e : Nat} {v : Value} {xs : List Int} (h : OwnK k w base e v xs) : IntsK k w v xs := by
  have hl := h.1
  have h0 := h.2
  rcases h0 with ⟨hv, hn⟩ | ⟨g, cap, cur, hv, hb, hg, hle, hcap, hsz, htake⟩
  · have : xs = [] := List.eq_nil_of_length_eq_zero hn
    subst this
    exact ⟨none, 0, hv, by simp, fun h => absurd h (by simp)⟩
  · refine ⟨_, _, hv, ⟨hle, Nat.le_trans hle hcap⟩, fun h0 => ⟨_, rfl, fun j hj => ?_⟩⟩
    refine World.ownsRow.cells h (g := g) (by rw [hv]; rfl) j _ ?_
    simp [List.getElem?_eq_getElem hj, List.getD_eq_getElem?_getD]
theorem OwnK.nil (k : IntKind) (w : World) (base e : Nat) : OwnK k w base e (.slice none 0 0) [] := World.ownsRow_nil w base e 1
theorem OwnK.grown {k : IntKind} {w w' : World} {base e : Nat} {v : Value} {xs : List Int} (h : OwnK k w base e v xs) {row : Option Nat} (hg : w.grownBy w' row) (hne : ∀ b, v.ownBlock = some b → row ≠ some b) : OwnK k w' base e v xs :=
  World.ownsRow.kept h hg (by
    cases hv : v.ownBlock with
    | none => exact .inl rfl
    | some b => exact .inr fun he => hne b hv he.symm)
theorem grown_of_ch {w w' : World} (h : Ch nob w w') (row : Option Nat) : w.grownBy w' row := ⟨h.os, h.tape, h.output, h.size, fun k hk _ => h.block k hk (fun h => h)⟩
theorem grown_of_ch1 {w w' : World} {g : Nat} (h : Ch (· = g) w w') : w.grownBy w' (some g) := ⟨h.os, h.tape, h.output, h.size, fun k hk hn => h.block k hk (fun e => hn (by rw [show k = g from e]))⟩
theorem OwnK.keep {k : IntKind} {w w' : World} {base e : Nat} {v : Value} {xs : List Int} (h : OwnK k w base e v xs) (hc : Ch nob w w') : OwnK k w' base e v xs := h.grown (grown_of_ch hc none) (fun _ _ h => by cases h)
theorem OwnK.other {k : IntKind} {w w' : World} {g : Nat} {base e : Nat} {v : Value} {xs : List Int} (h : OwnK k w base e v xs) (hc : Ch (· = g) w w') (hn : v.ownBlock ≠ some g) : OwnK k w' base e v xs := h.grown (grown_of_ch1 hc) (fun b hb he => hn (by rw [hb, he]))
theorem OwnK.ge {k : IntKind} {w : World} {base e : Nat} {v : Value} {xs : List Int} (h : OwnK k w base e v xs) (b : Nat) (hb : v.ownBlock = some b) : base ≤ b ∧ b < w.heap.size := World.ownsRow.lt h b hb
/-- Whoever owns a row is not a block of another type. -/
theorem OwnK.ne {k : IntKind} {w : World} {base e : Nat} {v : Value} {xs : List Int} (h : OwnK k w base e v xs) {g : Nat} {cs : Array Value} {T : TypeId} (hb : Blk w g cs T) (ht : e ≠ T) : v.ownBlock ≠ some g := by
  intro hv
  rcases h.2 with ⟨h1, _⟩ | ⟨g', cap, cur, h1, _, hg, _⟩
  · rw [h1] at hv; cases hv
  · rw [h1] at hv
    have : g' = g := by simpa [Value.ownBlock] using hv
    subst this
    have h2 : w.heap[g']? = some (.cells cs T (0, 0)) := hb
    rw [hg] at h2
    simp at h2
    exact ht h2.2
/-- The append: what it leaves. -/
theorem own_snoc {k : IntKind} {w : World} {base e : Nat} {v : Value} {xs : List Int} {z : Int} {n : Nat} (h : w.ownsRow base e 1 v (n + 1) (xs.map (.int k) ++ (#[Value.int k z] : Array Value).toList)) (hn : n = xs.length) : OwnK k w base e v (xs ++ [z]) := by
  subst hn
  unfold OwnK
  simpa using h
/-- 'append(s, x)' to a row of ints of the call's own. -/
theorem wpList_append_int {P : Program} {w : World} {ops : Array Oper} {rest : List Oper} {o : Oper} {a : Act} {Q : Exit → Act → World → Prop} (hgd : o.guard = none) (s x : Operand) (t e : TypeId)
    (ho : o.op = .call { callee := .builtin .append, args := #[s, x], argTypes := #[t, t] }) (k : IntKind) (bytes : Nat) (he : ElemOK P t e (.int k 0) 1 bytes) (hby : bytes ≤ 1000)
    (base : Nat) (v : Value) (xs : List Int) (hs : a.eval s = v) (hown : OwnK k w base e v xs)
    (g : Nat) (z : Int) (T : TypeId) (hx : a.eval x = .slice (some ⟨g, 0, none⟩) 1 1) (hb : Blk w g #[.int k z] T) (hn : xs.length ≤ 100000000000) (hbase : base ≤ w.heap.size)
    (h : ∀ v' w', OwnK k w' base e v' (xs ++ [z]) → w.grownBy w' v.ownBlock → wpList P ops Q rest (a.put o.dst v') w') : wpList P ops Q (o :: rest) a w :=
  wpList_append1 hgd s x t e ho (.int k 0) 1 bytes he rfl (by decide) hby base v xs.length _ hs hown g #[.int k z] T hx hb rfl (by intro u hu; simp at hu; subst hu; rfl) hn hbase
    fun v' w' h1 h2 => h v' w' (own_snoc h1 rfl) h2
/-- 'make([]T, 0, n)': a row of ints of the call's own. -/
theorem wpList_make_int {P : Program} {w : World} {ops : Array Oper} {rest : List Oper} {o : Oper} {a : Act} {Q : Exit → Act → World → Prop} (hgd : o.guard = none) (l c : Operand) (t e : TypeId) (ho : o.op = Op.makeSlice t l c)
    (k : IntKind) (bytes : Nat) (he : ElemOK P t e (.int k 0) 1 bytes) (hby : bytes ≤ 1000) (base n : Nat) (kl kc : IntKind) (C : Int) (hl : a.eval l = .int kl 0) (hc : a.eval c = .int kc C) (hC : C = (n : Int)) (hn : n ≤ 100000000) (hbase : base ≤ w.heap.size)
    (h : ∀ w', OwnK k w' base e (.slice (some ⟨w.heap.size, 0, none⟩) 0 n) [] → Ch nob w w' → wpList P ops Q rest (a.put o.dst (.slice (some ⟨w.heap.size, 0, none⟩) 0 n)) w') : wpList P ops Q (o :: rest) a w := by
  obtain ⟨i, hi, hz0, hz1, hz2⟩ := he.get
  refine wpList_make_own w hgd l c t ho base e i (.int k 0) 1 he.under hi hz0 hz1 kl kc C n hl hc hC ?_ (by unfold maxLen; omega) hbase (fun w' h1 h2 => h w' h1 ⟨h2.os, h2.tape, h2.output, h2.size, fun k hk _ => h2.block k hk (by simp)⟩)
  rw [hz2]
  exact Nat.le_trans (Nat.mul_le_mul hby hn) (by decide)
theorem Ch.grown_own {S : Nat → Prop} {a w w' : World} {v : Value} (h : Ch S a w) (hg : w.grownBy w' v.ownBlock) (hr : ∀ b, v.ownBlock = some b → a.heap.size ≤ b) : Ch S a w' :=
  h.grown hg (fun k hk e => by have := hr k e; omega)
theorem Blk.grown {w w' : World} {g : Nat} {cs : Array Value} {T : TypeId} {row : Option Nat} (h : Blk w g cs T) (hg : w.grownBy w' row) (hn : row ≠ some g) : Blk w' g cs T :=
  (hg.block g h.lt (fun e => hn e.symm)).trans h
theorem IntsK.grown {k : IntKind} {w w' : World} {v : Value} {xs : List Int} {row : Option Nat} (h : IntsK k w v xs) (hg : w.grownBy w' row) (hn : ∀ b, v.ownBlock = some b → row ≠ some b) : IntsK k w' v xs :=
  h.ch (S := fun b => row = some b) ⟨hg.os, hg.tape, hg.output, hg.size, fun k hk hne => hg.block k hk (fun e => hne e.symm)⟩ hn
theorem Ch.toGrown {w w' : World} {row : Option Nat} (hg : w.grownBy w' row) : Ch (fun b => row = some b) w w' := ⟨hg.os, hg.tape, hg.output, hg.size, fun k hk hne => hg.block k hk (fun e => hne e.symm)⟩
/-- One element of a slice that is read: its address and cell. -/
theorem IntsK.at {k : IntKind} {w : World} {A : Option Addr} {c n : Nat} {xs : List Int} (h : IntsK k w (.slice A n c) xs) : n = xs.length ∧ xs.length ≤ 9223372036854775807 ∧ ∀ j, j < xs.length → ∃ ad, A = some ad ∧ w.cell? (ad.add j) = some (.int k (xs.getD j 0)) := by
  obtain ⟨A', c', hv, hl, hx⟩ := h
  simp only [Value.slice.injEq] at hv
  obtain ⟨rfl, rfl, rfl⟩ := hv
  refine ⟨rfl, hl.2, fun j hj => ?_⟩
  obtain ⟨ad, h1, h2⟩ := hx (by omega)
  exact ⟨ad, h1, h2 j hj⟩
theorem IntsK.shape {k : IntKind} {w : World} {v : Value} {xs : List Int} (h : IntsK k w v xs) : ∃ A c, v = .slice A xs.length c := by
  obtain ⟨A, c, rfl, _, _⟩ := h; exact ⟨A, c, rfl⟩
/-- A slice of ints that came in reads as its list. -/
theorem ints_of_open {k : IntKind} {w : World} {x : Addr} {l c : Nat} {zs : List Int} (hl : l ≤ c) (hm : c ≤ maxLen) (hz : zs.length = c) (hcell : ∀ i, i < zs.length → w.cell? (x.add i) = some (.int k (zs.getD i 0))) : IntsK k w (.slice (some x) l c) (zs.take l) := by
  have hle : (zs.take l).length = l := by rw [List.length_take]; omega
  refine ⟨some x, c, by rw [hle], ⟨by omega, by unfold maxLen at hm; omega⟩, fun h0 => ⟨x, rfl, fun j hj => ?_⟩⟩
  rw [hle] at hj
  rw [hcell j (by omega), List.getD_eq_getElem?_getD, List.getD_eq_getElem?_getD, List.getElem?_take, if_pos hj]
/-- A literal's row. -/
theorem OwnK.of_blk {k : IntKind} {w : World} {base g e : Nat} {xs : List Int} (h : Blk w g (xs.map (Value.int k)).toArray e) (hb : base ≤ g) (hl : xs.length ≤ 1000000) : OwnK k w base e (.slice (some ⟨g, 0, none⟩) xs.length xs.length) xs :=
  ⟨by simp, .inr ⟨g, xs.length, _, rfl, hb, h, Nat.le_refl _, by unfold maxLen; omega, by simp, by simp [List.take_of_length_le]⟩⟩
/-- 'append(s, l...)': a list behind a row of the call's own. -/
theorem wpList_append_ints {P : Program} {w : World} {ops : Array Oper} {rest : List Oper} {o : Oper} {a : Act} {Q : Exit → Act → World → Prop} (hgd : o.guard = none) (s x : Operand) (t e : TypeId)
    (ho : o.op = .call { callee := .builtin .append, args := #[s, x], argTypes := #[t, t] }) (k : IntKind) (bytes : Nat) (he : ElemOK P t e (.int k 0) 1 bytes) (hby : bytes ≤ 1000)
    (base : Nat) (v : Value) (xs : List Int) (hs : a.eval s = v) (hown : OwnK k w base e v xs)
    (base' e' : Nat) (u : Value) (ys : List Int) (hx : a.eval x = u) (hsrc : OwnK k w base' e' u ys) (hn : xs.length ≤ 10000000000) (hm : ys.length ≤ 10000000000) (hbase : base ≤ w.heap.size)
    (h : ∀ v' w', OwnK k w' base e v' (xs ++ ys) → w.grownBy w' v.ownBlock → wpList P ops Q rest (a.put o.dst v') w') : wpList P ops Q (o :: rest) a w := by
  obtain ⟨i, hi, hz0, hz1, hz2⟩ := he.get
  rcases hsrc.2 with ⟨hu, h0⟩ | ⟨g, cap, cur, hu, _, hg, hle, _, _, htake⟩
  · have : ys = [] := List.eq_nil_of_length_eq_zero h0
    subst this
    refine wpList_append_own_none hgd s x t ho base e i 1 he.under hi v xs.length _ hs hown (hx.trans hu) ?_
    have := h v w (by simpa using hown) ⟨rfl, rfl, rfl, Nat.le_refl _, fun _ _ _ => rfl⟩
    exact this
  · refine wpList_append_own w hgd s x t ho base e i (.int k 0) 1 bytes he.under hi hz0 hz1 hz2 rfl (by decide) v xs.length _ hs hown ⟨g, 0, none⟩ ys.length cap (ys.map (.int k)) (hx.trans hu) (by simp) ?_ ?_ (by unfold maxLen; omega) ?_ hbase (fun v' w' h1 h2 _ => h v' w' ?_ h2)
    · exact World.ownsRow.cells hsrc (g := g) (by rw [hu]; rfl)
    · intro z hz
      obtain ⟨y, _, rfl⟩ := List.mem_map.1 hz
      rfl
    · exact Nat.le_trans (Nat.mul_le_mul (show xs.length + ys.length ≤ 20000000000 by omega) hby) (by decide)
    · unfold OwnK
      rw [List.length_append, List.map_append]
      exact h1
theorem elem_int : ElemOK Tryd.prog 53 3 (.int .i64 0) 1 8 := ⟨by kernel_rfl, by kernel_rfl⟩
theorem OwnK.alloc {k : IntKind} {w : World} {base e : Nat} {v : Value} {xs : List Int} (h : OwnK k w base e v xs) (o : Obj) : OwnK k (w.alloc o) base e v xs := World.ownsRow.alloc h o
theorem OwnK.made (k : IntKind) (w : World) (base e : Nat) (hb : base ≤ w.heap.size) : OwnK k (w.alloc (.cells #[] e)) base e (.slice (some ⟨w.heap.size, 0, none⟩) 0 0) [] :=
  World.ownsRow_made w #[] 0 hb (by unfold maxLen; omega) (by simp)
theorem OwnK.drewN {k : IntKind} {w : World} {base e : Nat} {v : Value} {xs : List Int} (h : OwnK k w base e v xs) (n : Nat) : OwnK k (w.drewN n) base e v xs := h
/-- What a call hands back that makes a list of its own. -/
def RetOwn (k : IntKind) (w : World) (T : Nat) (xs : List Int) (e : Ending) (w' : World) : Prop := ∃ v, e = .returned v ∧ OwnK k w' w.heap.size T v xs ∧ Ch nob w w'
theorem filter_take_succ (l : List Int) (p : Int → Bool) (k : Nat) (h : k < l.length) : (l.take (k + 1)).filter p = (l.take k).filter p ++ if p (l.getD k 0) then [l.getD k 0] else [] := by
  rw [List.take_add_one, List.filter_append, List.getElem?_eq_getElem h, List.getD_eq_getElem?_getD, List.getElem?_eq_getElem h]
  simp only [Option.toList_some, Option.getD_some]
  cases hp : p l[k] <;> simp [hp]
end Go.Proofs.YtobfanodjdkkoaaDoor
