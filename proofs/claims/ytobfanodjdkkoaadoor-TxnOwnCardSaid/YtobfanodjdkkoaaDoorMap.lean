/- Maps from ints that a call makes, as functions from a key to what lies at it: made, asked, written, counted, gone through. No condition. -/
import Derived.Test.YtobfanodjdkkoaaDoorKit
import Derived.Maps.RangeWalk
import Derived.Maps.Ext
set_option linter.unusedVariables false
set_option linter.unusedSimpArgs false
namespace Go.Proofs.YtobfanodjdkkoaaDoor
open Go.RowKit Go.Maps

/-- An element as it stands. -/
def heldElem (v : Value) : Option (DataW Value × List MemPlace) := some (.held v, [])
theorem heldElem_inv {v u : Value} {ps : List MemPlace} (h : heldElem v = some (.held u, ps)) : v = u := by
  unfold heldElem at h
  cases h
  rfl
abbrev ik (k : Int) : Lit := .int .i64 k
theorem ik_key (k : Int) : WideAt.IsKeyLit (ik k) := trivial
theorem ik_ne {a b : Int} (h : a ≠ b) : ik a ≠ ik b := fun e => h (by cases e; rfl)
/-- A map in which v stands at k. -/
def putM (f : Int → Option Value) (k : Int) (v : Value) : Int → Option Value := fun x => if x = k then some v else f x
/-- Block b is a map of c entries that holds f. -/
def IMap (P : Program) (K : TypeId) (w : World) (b c : Nat) (f : Int → Option Value) : Prop :=
  ∃ D : DataW Value, w.ownsMap P K heldElem b c D ∧ size D = c ∧ (∀ k, has D (ik k) = (f k).isSome) ∧ ∀ k v z, f k = some v → D.atKey (ik k) z = .held v
theorem IMap.made (P : Program) (K : TypeId) (w : World) : IMap P K (w.alloc (.map #[] 0)) w.heap.size 0 fun _ => none :=
  ⟨_, World.ownsMap_made w P K heldElem, rfl, fun _ => rfl, fun _ _ _ h => by cases h⟩
theorem IMap.lt {P : Program} {K : TypeId} {w : World} {b c : Nat} {f : Int → Option Value} (h : IMap P K w b c f) : b < w.heap.size := by
  obtain ⟨D, h, _⟩ := h
  exact h.lt
theorem IMap.ch {S : Nat → Prop} {P : Program} {K : TypeId} {w w' : World} {b c : Nat} {f : Int → Option Value} (h : IMap P K w b c f) (hc : Ch S w w') (hn : ¬ S b) : IMap P K w' b c f := by
  have hlt := h.lt
  obtain ⟨D, ⟨es, clock, hb, r⟩, h2⟩ := h
  exact ⟨D, ⟨es, clock, (hc.block b hlt hn).trans hb, r⟩, h2⟩
theorem IMap.keep {P : Program} {K : TypeId} {w w' : World} {b c : Nat} {f : Int → Option Value} (h : IMap P K w b c f) (hc : Ch nob w w') : IMap P K w' b c f := h.ch hc fun h => h
theorem IMap.at_ {P : Program} {K : TypeId} {w : World} {b c : Nat} {f : Int → Option Value} (h : IMap P K w b c f) (hK : P.underlying K = some (.int .i64)) {T E : TypeId} (hT : P.underlying T = some (.map K E)) {z : Value} (hz : (zeroValue E).run P w = .ok z w) (k : Int) (hk : (Lit.int .i64 k).wf = true) :
    (Instr.lookup T (.map (some b)) (.int .i64 k) true).run P w = .ok (.tuple #[(f k).getD z, .bool (f k).isSome]) w ∧ (Instr.lookup T (.map (some b)) (.int .i64 k) false).run P w = .ok ((f k).getD z) w := by
  obtain ⟨D, ho, _, hh, ha⟩ := h
  obtain ⟨v, ps, hr, hv⟩ := ho.look_ok (int_keyed hK) hT hz (zd := .held z) (zp := []) rfl (keyOf_int_mk hK hk)
  obtain ⟨v2, ps2, hr2, hv2⟩ := ho.lookup (int_keyed hK) hT hz (zd := .held z) (zp := []) rfl (keyOf_int_mk hK hk)
  have hat : D.atKey (ik k) (.held z) = .held ((f k).getD z) := by
    cases e : f k with
    | none => exact atKey_of_not_has (by rw [hh, e]; rfl) _
    | some x => exact ha k x _ e
  rw [hat] at hv hv2
  rw [hr, hr2, hh, heldElem_inv hv, heldElem_inv hv2]
  exact ⟨rfl, rfl⟩
theorem bound_of {P : Program} {K : TypeId} {w : World} {b n : Nat} {D : DataW Value} (h : w.ownsMap P K heldElem b n D) : w.ownsMap P K heldElem b (size D) D := by
  obtain ⟨es, clock, hb, F, _, rfl⟩ := h
  exact ⟨es, clock, hb, F, by simp [size, length_sorted], rfl⟩
theorem IMap.put {P : Program} {K : TypeId} {w : World} {b c : Nat} {f : Int → Option Value} (h : IMap P K w b c f) (hK : P.underlying K = some (.int .i64)) {T E : TypeId} (hT : P.underlying T = some (.map K E)) (hc : c < maxLen) (k : Int) (hk : (Lit.int .i64 k).wf = true) (v : Value) :
    ∃ w', (Instr.mapUpdate T (.map (some b)) (.int .i64 k) v).run P w = .ok () w' ∧ IMap P K w' b (if (f k).isSome then c else c + 1) (putM f k v) ∧ Ch (· = b) w w' := by
  obtain ⟨D, ho, hs, hh, ha⟩ := h
  obtain ⟨w', hr, ho', hg⟩ := ho.update (int_keyed hK) hT hc (keyOf_int_mk hK hk) (d := .held v) (ps := []) rfl
  have hsz : size (D.put (ik k) (.held v)) = if (f k).isSome then c else c + 1 := by rw [size_put (ho.tidy (int_keyed hK)), hh, hs]
  refine ⟨w', hr, ⟨_, hsz ▸ bound_of ho', hsz, fun x => ?_, fun x u z hx => ?_⟩, (Ch.refl _ _).grown hg (fun i _ e => by cases e; rfl)⟩
  · unfold putM
    by_cases e : x = k
    · subst e
      rw [if_pos rfl, has_put_same ho.isMap (ik_key x)]
      rfl
    · rw [if_neg e, has_put_other (ik_ne e), hh]
  · unfold putM at hx
    by_cases e : x = k
    · subst e
      rw [if_pos rfl] at hx
      cases hx
      exact atKey_put_same ho.isMap (ik_key x) _ _
    · rw [if_neg e] at hx
      rw [atKey_put_other (ik_ne e)]
      exact ha x u z hx

/-! ### Gone through -/
/-- .. and r goes through it: 'left' are the keys that are still to come, cnt of them. -/
def IRange (P : Program) (K : TypeId) (w : World) (b r c : Nat) (f : Int → Option Value) (left : Int → Bool) (cnt : Nat) : Prop :=
  ∃ (D : DataW Value) (l : Lit → Bool), w.ranges P K heldElem b r c D l cnt ∧ size D = c ∧ (∀ k, has D (ik k) = (f k).isSome) ∧ (∀ k v z, f k = some v → D.atKey (ik k) z = .held v) ∧ ∀ k, l (ik k) = left k
theorem IRange.ne {P : Program} {K : TypeId} {w : World} {b r c : Nat} {f : Int → Option Value} {left : Int → Bool} {cnt : Nat} (h : IRange P K w b r c f left cnt) : r ≠ b := by
  obtain ⟨D, l, h, _⟩ := h
  exact h.ne
theorem IRange.lt {P : Program} {K : TypeId} {w : World} {b r c : Nat} {f : Int → Option Value} {left : Int → Bool} {cnt : Nat} (h : IRange P K w b r c f left cnt) : b < w.heap.size ∧ r < w.heap.size := by
  obtain ⟨D, l, h, _⟩ := h
  exact ⟨h.owns.lt, h.lt⟩
theorem IRange.left_eq {P : Program} {K : TypeId} {w : World} {b r c : Nat} {f : Int → Option Value} {left : Int → Bool} {cnt : Nat} (h : IRange P K w b r c f left cnt) : w.rangeLeft b r = cnt := by
  obtain ⟨D, l, h, _⟩ := h
  exact h.left_eq
theorem IRange.ch {S : Nat → Prop} {P : Program} {K : TypeId} {w w' : World} {b r c : Nat} {f : Int → Option Value} {left : Int → Bool} {cnt : Nat} (h : IRange P K w b r c f left cnt) (hc : Ch S w w') (hb : ¬ S b) (hr : ¬ S r) : IRange P K w' b r c f left cnt := by
  have hlt := h.lt
  obtain ⟨D, l, ⟨es, clock, since, seen, c0, h1, h2, h3, h4, h5, rest⟩, k⟩ := h
  exact ⟨D, l, ⟨es, clock, since, seen, c0, (hc.block b hlt.1 hb).trans h1, h2, h3, h4, (hc.block r hlt.2 hr).trans h5, rest⟩, k⟩
theorem IMap.range {P : Program} {K : TypeId} {w : World} {b c : Nat} {f : Int → Option Value} (h : IMap P K w b c f) (hK : P.underlying K = some (.int .i64)) {T E : TypeId} (hT : P.underlying T = some (.map K E)) :
    ∃ w', (Instr.range T (.map (some b))).run P w = .ok (.pointer (some ⟨w.heap.size, 0, none⟩)) w' ∧ IRange P K w' b w.heap.size c f (fun k => (f k).isSome) c ∧ Ch nob w w' ∧ w'.heap.size = w.heap.size + 1 := by
  obtain ⟨D, ho, hs, hh, ha⟩ := h
  obtain ⟨w', hr, hg, hg2, hz⟩ := ho.range (int_keyed hK) hT
  exact ⟨w', hr, ⟨D, _, hs ▸ hg, hs, hh, ha, hh⟩, (Ch.refl _ _).grown hg2 (fun i _ e => by cases e), hz⟩
theorem IRange.next {P : Program} {K : TypeId} {w : World} {b r c : Nat} {f : Int → Option Value} {left : Int → Bool} {cnt : Nat} (h : IRange P K w b r c f left cnt) (hK : P.underlying K = some (.int .i64)) (ty : TypeId) :
    (cnt = 0 ∧ (∀ k, left k = false) ∧ (Instr.next (.pointer (some ⟨r, 0, none⟩)) false ty).run P w = .ok (.tuple #[.bool false]) w) ∨
    ∃ k v w' cnt', (Lit.int .i64 k).wf = true ∧ left k = true ∧ f k = some v ∧ (Instr.next (.pointer (some ⟨r, 0, none⟩)) false ty).run P w = .ok (.tuple #[.bool true, .int .i64 k, v]) w' ∧
      IRange P K w' b r c f (fun x => left x && !decide (x = k)) cnt' ∧ cnt' < cnt ∧ Ch (· = r) w w' ∧ w'.heap.size = w.heap.size ∧ (Instr.entry (.pointer (some ⟨r, 0, none⟩))).run P w' = .ok (.tuple #[.int .i64 k, v]) w' := by
  obtain ⟨D, l, hr, hs, hh, ha, hl⟩ := h
  rcases hr.next (int_keyed hK) ty with ⟨h0, h1, h2⟩ | ⟨key, v, kl, y, w', cnt', hkey, hlk, hv, hat, hrun, hrg, hlt, hgr, hsz, hen⟩
  · exact Or.inl ⟨h0, fun k => by rw [← hl, h1], h2⟩
  · obtain ⟨k, rfl, rfl, hwf⟩ := Maps.keyOf_int_inv hK hkey
    have hsome : has D (ik k) = true := has_true_of_atKey hat
    rw [hh] at hsome
    obtain ⟨u, hu⟩ := Option.isSome_iff_exists.1 hsome
    have hyu := hat (.held u)
    rw [ha k u _ hu] at hyu
    have hvu : v = u := by
      unfold heldElem at hv
      cases hv
      cases hyu
      rfl
    subst hvu
    refine Or.inr ⟨k, v, w', cnt', hwf, by rw [← hl]; exact hlk, hu, hrun, ⟨D, _, hrg, hs, hh, ha, fun x => ?_⟩, hlt, (Ch.refl _ _).grown hgr (fun i _ e => by cases e; rfl), hsz, hen⟩
    show (l (ik x) && !(ik x).sameKey (ik k)) = _
    rw [hl]
    by_cases e : x = k
    · subst e
      rw [WideAt.sameKey_self (ik_key x)]
      simp
    · rw [sameKey_ne (ik_ne e)]
      simp [e]

/-! ### At the operations -/
section
variable {P : Program} (w : World) {ops : Array Oper} {rest : List Oper} {o : Oper} {a : Act} {Q : Exit → Act → World → Prop}
theorem wpList_imap_look (hg : o.guard = none) (m x : Operand) (T : TypeId) (hop : o.op = Op.lookup T m x true) (K E : TypeId) (hK : P.underlying K = some (.int .i64)) (hT : P.underlying T = some (.map K E)) (z : Value) (hz : (zeroValue E).run P w = .ok z w)
    (b c : Nat) (f : Int → Option Value) (hm : a.eval m = .map (some b)) (h : IMap P K w b c f) (k : Int) (hx : a.eval x = .int .i64 k) (hk : (Lit.int .i64 k).wf = true)
    (hN : wpList P ops Q rest (a.put o.dst (.tuple #[(f k).getD z, .bool (f k).isSome])) w) : wpList P ops Q (o :: rest) a w := by
  refine wpList_plain hg fun K' hK' => ?_
  have hrun := (h.at_ hK hT hz k hk).1
  unfold Oper.wp
  simp [execOp, hop, hm, hx, hrun, Result.andThen]
  exact hK' _ _ hN
theorem wpList_imap_get (hg : o.guard = none) (m x : Operand) (T : TypeId) (hop : o.op = Op.lookup T m x false) (K E : TypeId) (hK : P.underlying K = some (.int .i64)) (hT : P.underlying T = some (.map K E)) (z : Value) (hz : (zeroValue E).run P w = .ok z w)
    (b c : Nat) (f : Int → Option Value) (hm : a.eval m = .map (some b)) (h : IMap P K w b c f) (k : Int) (hx : a.eval x = .int .i64 k) (hk : (Lit.int .i64 k).wf = true)
    (hN : wpList P ops Q rest (a.put o.dst ((f k).getD z)) w) : wpList P ops Q (o :: rest) a w := by
  refine wpList_plain hg fun K' hK' => ?_
  have hrun := (h.at_ hK hT hz k hk).2
  unfold Oper.wp
  simp [execOp, hop, hm, hx, hrun, Result.andThen]
  exact hK' _ _ hN
theorem wpList_imap_put (hg : o.guard = none) (m x v : Operand) (T : TypeId) (hop : o.op = Op.mapUpdate T m x v) (K E : TypeId) (hK : P.underlying K = some (.int .i64)) (hT : P.underlying T = some (.map K E))
    (b c : Nat) (f : Int → Option Value) (hm : a.eval m = .map (some b)) (h : IMap P K w b c f) (hc : c < maxLen) (k : Int) (hx : a.eval x = .int .i64 k) (hk : (Lit.int .i64 k).wf = true) (u : Value) (hv : a.eval v = u)
    (hN : ∀ w', IMap P K w' b (if (f k).isSome then c else c + 1) (putM f k u) → Ch (· = b) w w' → wpList P ops Q rest (a.put o.dst undef) w') : wpList P ops Q (o :: rest) a w := by
  refine wpList_plain hg fun K' hK' => ?_
  obtain ⟨w', hrun, h1, h2⟩ := h.put hK hT hc k hk u
  unfold Oper.wp
  simp [execOp, hop, hm, hx, hv, hrun, Result.andThen]
  exact hK' _ _ (hN w' h1 h2)
theorem wpList_imap_range (hg : o.guard = none) (m : Operand) (T : TypeId) (hop : o.op = Op.range T m) (K E : TypeId) (hK : P.underlying K = some (.int .i64)) (hT : P.underlying T = some (.map K E))
    (b c : Nat) (f : Int → Option Value) (hm : a.eval m = .map (some b)) (h : IMap P K w b c f)
    (hN : ∀ w', IRange P K w' b w.heap.size c f (fun k => (f k).isSome) c → Ch nob w w' → w'.heap.size = w.heap.size + 1 → wpList P ops Q rest (a.put o.dst (.pointer (some ⟨w.heap.size, 0, none⟩))) w') : wpList P ops Q (o :: rest) a w := by
  refine wpList_plain hg fun K' hK' => ?_
  obtain ⟨w', hrun, h1, h2, h3⟩ := h.range hK hT
  unfold Oper.wp
  simp [execOp, hop, hm, hrun, Result.andThen]
  exact hK' _ _ (hN w' h1 h2 h3)
theorem wpList_imap_next (hg : o.guard = none) (it : Operand) (hop : o.op = Op.next it false) (K : TypeId) (hK : P.underlying K = some (.int .i64))
    (b r c : Nat) (f : Int → Option Value) (left : Int → Bool) (cnt : Nat) (hm : a.eval it = .pointer (some ⟨r, 0, none⟩)) (h : IRange P K w b r c f left cnt)
    (hDone : (∀ k, left k = false) → wpList P ops Q rest (a.put o.dst (.tuple #[.bool false])) w)
    (hMore : ∀ (k : Int) (v : Value) (w' : World) (cnt' : Nat), (Lit.int .i64 k).wf = true → left k = true → f k = some v → IRange P K w' b r c f (fun x => left x && !decide (x = k)) cnt' → cnt' < cnt → Ch (· = r) w w' → w'.heap.size = w.heap.size →
      (Instr.entry (.pointer (some ⟨r, 0, none⟩))).run P w' = .ok (.tuple #[.int .i64 k, v]) w' → wpList P ops Q rest (a.put o.dst (.tuple #[.bool true, .int .i64 k, v])) w') : wpList P ops Q (o :: rest) a w := by
  refine wpList_plain hg fun K' hK' => ?_
  unfold Oper.wp
  rcases h.next hK o.type with ⟨h0, hl, hrun⟩ | ⟨k, v, w', cnt', h1, h2, h3, hrun, h4, h5, h6, h7, h8⟩
  · simp [execOp, hop, hm, hrun, Result.andThen]
    exact hK' _ _ (hDone hl)
  · simp [execOp, hop, hm, hrun, Result.andThen]
    exact hK' _ _ (hMore k v w' cnt' h1 h2 h3 h4 h5 h6 h7 h8)
theorem wpList_imap_len (hg : o.guard = none) (m : Operand) (T : TypeId) (hop : o.op = Op.call { callee := Callee.builtin Builtin.len, args := #[m], argTypes := #[T] }) (K E : TypeId) (hT : P.underlying T = some (.map K E))
    (b c : Nat) (f : Int → Option Value) (hm : a.eval m = .map (some b)) (h : IMap P K w b c f) (hN : wpList P ops Q rest (a.put o.dst (.int .i64 c)) w) : wpList P ops Q (o :: rest) a w := by
  obtain ⟨D, ho, hs, _⟩ := h
  exact wpList_len_own w hg m T hop K E hT heldElem b c D hm ho (by rw [hs]; exact hN)
end
end Go.Proofs.YtobfanodjdkkoaaDoor
