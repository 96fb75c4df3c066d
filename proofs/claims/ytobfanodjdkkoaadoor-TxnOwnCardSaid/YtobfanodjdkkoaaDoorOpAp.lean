/- Operations that came in, appended to a row of the call's own. No condition but each theorem's own. -/
import Derived.Test.YtobfanodjdkkoaaDoorOpl
set_option linter.unusedVariables false
set_option linter.unusedSimpArgs false
namespace Go.Proofs.YtobfanodjdkkoaaDoor
open Go.RowKit

theorem flatO_one : ∀ (l : List Opn), ∀ u ∈ flatO l, u.oneCell' = true
  | [], u, h => by cases h
  | p :: l, u, h => by
    simp only [flatO, List.mem_cons] at h
    rcases h with rfl | rfl | rfl | h
    · rfl
    · rfl
    · rfl
    · exact flatO_one l u h
/-- 'append(s, x...)', x without a row. -/
theorem wpList_append_void {P : Program} {w : World} {ops : Array Oper} {rest : List Oper} {o : Oper} {a : Act} {Q : Exit → Act → World → Prop} (hgd : o.guard = none) (s x : Operand) (t : TypeId)
    (ho : o.op = .call { callee := .builtin .append, args := #[s, x], argTypes := #[t, t] })
    (base : Nat) (e : TypeId) (i : TypeInfo) (size : Nat) (ht : P.underlying t = some (.slice e)) (hi : P.info? e = some i)
    (v : Value) (n c : Nat) (xs : List Value) (hs : a.eval s = v) (hown : w.ownsRow base e size v n xs) (hx : a.eval x = .slice none 0 c)
    (h : wpList P ops Q rest (a.put o.dst v) w) : wpList P ops Q (o :: rest) a w := by
  refine wpList_plain hgd fun K hK => ?_
  have hrun : (Builtin.append_ #[t, t] o.type #[v, .slice none 0 c]).run P w = .ok v w := by
    rcases hown.2 with ⟨rfl, rfl⟩ | ⟨g, cap, cur, rfl, _, _, hnc, _⟩
    · simp [Builtin.append_, run_underlying ht, sizeOf, typeInfo, hi, Builtin.lenOf, Builtin.firstCells]
    · simp [Builtin.append_, run_underlying ht, sizeOf, typeInfo, hi, Builtin.lenOf, Builtin.firstCells, hnc, storeCells]
  unfold Oper.wp
  simp [execOp, ho, resolve, invoke, builtin, hs, hx, hrun, Result.andThen]
  exact hK _ _ h
/-- 'append(s, x...)', x operations that came in. -/
theorem wpList_append_opl {P : Program} {w : World} {ops : Array Oper} {rest : List Oper} {o : Oper} {a : Act} {Q : Exit → Act → World → Prop} (hgd : o.guard = none) (s x : Operand) (t e : TypeId)
    (ho : o.op = .call { callee := .builtin .append, args := #[s, x], argTypes := #[t, t] }) (he : ElemOK P t e (.agg #[.bool false, .int .i64 0, .int .i64 0]) 3 24)
    (base : Nat) (v : Value) (xs : List Opn) (hs : a.eval s = v) (hown : OwnO w base e v xs)
    (u : Value) (ys : List Opn) (hx : a.eval x = u) (hsrc : Opl w u ys) (hn : xs.length ≤ 1000000) (hm : ys.length ≤ 1000000) (hbase : base ≤ w.heap.size)
    (h : ∀ v' w', OwnO w' base e v' (xs ++ ys) → w.grownBy w' v.ownBlock → wpList P ops Q rest (a.put o.dst v') w') : wpList P ops Q (o :: rest) a w := by
  obtain ⟨i, hi, hz0, hz1, hz2⟩ := he.get
  have hfin : ∀ v' w', w'.ownsRow base e 3 v' (xs.length + ys.length) (flatO xs ++ flatO ys) → w.grownBy w' v.ownBlock → wpList P ops Q rest (a.put o.dst v') w' := fun v' w' h1 h2 => h v' w' (by unfold OwnO; rw [flatO_append, List.length_append]; exact h1) h2
  obtain ⟨A, c, hu, hl, hcell⟩ := hsrc
  cases hA : A with
  | none =>
    have h0 : ys = [] := by
      cases ys with
      | nil => rfl
      | cons y l =>
        obtain ⟨ad, h2, _⟩ := hcell (by simp)
        rw [hA] at h2; cases h2
    subst h0
    rw [hA] at hu
    refine wpList_append_void hgd s x t ho base e i 3 he.under hi v xs.length c _ hs hown (hx.trans hu) ?_
    exact h v w (by simpa using hown) ⟨rfl, rfl, rfl, Nat.le_refl _, fun _ _ _ => rfl⟩
  | some ad =>
    rw [hA] at hu
    refine wpList_append_own w hgd s x t ho base e i _ 3 24 he.under hi hz0 hz1 hz2 rfl (by decide) v xs.length _ hs hown ad ys.length c (flatO ys) (hx.trans hu) (flatO_len ys) ?_ (flatO_one ys) (by unfold maxLen; omega) (by omega) hbase (fun v' w' h1 h2 _ => hfin v' w' h1 h2)
    intro j x hj
    have hjl : j < ys.length * 3 := by rw [← flatO_len]; exact (List.getElem?_eq_some_iff.1 hj).1
    obtain ⟨ad2, h2, h3⟩ := hcell (by omega)
    rw [hA] at h2
    cases h2
    have hq : j / 3 < ys.length := by omega
    obtain ⟨g0, g1, g2⟩ := h3 (j / 3) hq
    obtain ⟨f0, f1, f2⟩ := flatO_at ys (j / 3) hq
    have h4 : j % 3 = 0 ∨ j % 3 = 1 ∨ j % 3 = 2 := by omega
    rcases h4 with h4 | h4 | h4
    · have e1 : j / 3 * 3 = j := by omega
      rw [e1] at g0 f0
      rw [f0] at hj; cases hj
      exact g0
    · have e1 : j / 3 * 3 + 1 = j := by omega
      rw [add_next _ _ _ (by omega), e1] at g1
      rw [e1] at f1
      rw [f1] at hj; cases hj
      exact g1
    · have e1 : j / 3 * 3 + 2 = j := by omega
      rw [add_next _ _ _ (by omega), e1] at g2
      rw [e1] at f2
      rw [f2] at hj; cases hj
      exact g2
end Go.Proofs.YtobfanodjdkkoaaDoor
