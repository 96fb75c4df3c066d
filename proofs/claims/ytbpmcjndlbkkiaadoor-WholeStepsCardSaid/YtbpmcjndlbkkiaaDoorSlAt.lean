/- append to rows of a call's own, and where the row then lies; as a step of a region that draws its order, too. No condition. -/
import Derived.Test.YtbpmcjndlbkkiaaDoorSl
import Derived.Maps.AppendAt
import Derived.Deep.RegionLaw
set_option linter.unusedVariables false
set_option linter.unusedSimpArgs false
namespace Go.Proofs.YtbpmcjndlbkkiaaDoor
open Go.RowKit

/-- Where a row lies that has been appended to: where it lay, or in a new block. -/
def AtOld (w : World) (v v' : Value) : Prop := v'.ownBlock = v.ownBlock ∨ v'.ownBlock = some w.heap.size
theorem wpList_append_int_at {P : Program} {w : World} {ops : Array Oper} {rest : List Oper} {o : Oper} {a : Act} {Q : Exit → Act → World → Prop} (hgd : o.guard = none) (s x : Operand) (t e : TypeId)
    (ho : o.op = .call { callee := .builtin .append, args := #[s, x], argTypes := #[t, t] }) (k : IntKind) (bytes : Nat) (he : ElemOK P t e (.int k 0) 1 bytes) (hby : bytes ≤ 1000)
    (base : Nat) (v : Value) (xs : List Int) (hs : a.eval s = v) (hown : OwnK k w base e v xs)
    (g : Nat) (z : Int) (T : TypeId) (hx : a.eval x = .slice (some ⟨g, 0, none⟩) 1 1) (hb : Blk w g #[.int k z] T) (hn : xs.length ≤ 100000000) (hbase : base ≤ w.heap.size)
    (h : ∀ v' w', OwnK k w' base e v' (xs ++ [z]) → w.grownBy w' v.ownBlock → AtOld w v v' → wpList P ops Q rest (a.put o.dst v') w') : wpList P ops Q (o :: rest) a w := by
  obtain ⟨i, hi, hz0, hz1, hz2⟩ := he.get
  refine wpList_append_own_at w hgd s x t ho base e i (.int k 0) 1 bytes he.under hi hz0 hz1 hz2 rfl (by decide) v xs.length _ hs hown ⟨g, 0, none⟩ 1 1 [.int k z] hx rfl ?_ ?_ (by unfold maxLen; omega) ?_ hbase (fun v' w' h1 h2 _ h4 => h v' w' (own_snoc (by simpa using h1) rfl) h2 h4)
  · intro j u hu
    rw [show (⟨g, 0, none⟩ : Addr).add j = ⟨g, j, none⟩ from by unfold Addr.add; split <;> simp_all]
    exact hb.cell (by simpa using hu)
  · intro u hu
    simp at hu
    subst hu; rfl
  · exact Nat.le_trans (Nat.mul_le_mul (show xs.length + 1 ≤ 100000001 by omega) hby) (by decide)
/-- Ints that are read behind a row of the call's own, as a step of a region. -/
theorem step_append_ints {P : Program} {w : World} {ops : Array Oper} {o : Oper} {a : Act} {K : Act → World → Prop} {Q : Exit → Act → World → Prop} {E : Prop} (hgd : o.guard = none) (s x : Operand) (t e : TypeId)
    (ho : o.op = .call { callee := .builtin .append, args := #[s, x], argTypes := #[t, t] }) (k : IntKind) (bytes : Nat) (he : ElemOK P t e (.int k 0) 1 bytes) (hby : bytes ≤ 1000)
    (base : Nat) (v : Value) (xs : List Int) (hs : a.eval s = v) (hown : OwnK k w base e v xs)
    (ad : Addr) (m c : Nat) (ys : List Int) (hx : a.eval x = .slice (some ad) m c) (hsrc : IntsK k w (.slice (some ad) m c) ys) (hn : xs.length ≤ 100000000) (hm : ys.length ≤ 100000000) (hbase : base ≤ w.heap.size)
    (h : ∀ v' w', OwnK k w' base e v' (xs ++ ys) → w.grownBy w' v.ownBlock → AtOld w v v' → K (a.put o.dst v') w') : if Region.wanted o (yielded ops a.tmps) = true then Oper.wp P o a w K Q else E := by
  have hw : Region.wanted o (yielded ops a.tmps) = true := by simp [Region.wanted, hgd]
  rw [if_pos hw]
  obtain ⟨i, hi, hz0, hz1, hz2⟩ := he.get
  obtain ⟨rfl, _, hcell⟩ := hsrc.at
  obtain ⟨v', w', hr, h2, h3, _, h5⟩ := run_append_own_at (P := P) w base t o.type e i (.int k 0) 1 bytes he.under hi hz0 hz1 hz2 rfl (by decide) v xs.length _ hown ad ys.length c (ys.map (.int k)) (by simp) (by
      intro j u hu
      have hj : j < ys.length := by have := (List.getElem?_eq_some_iff.1 hu).1; simpa using this
      obtain ⟨ad', he', hx'⟩ := hcell j hj
      obtain rfl : ad = ad' := by simpa using he'
      rw [hx', ← hu, List.getElem?_map, List.getElem?_eq_getElem hj, List.getD_eq_getElem?_getD, List.getElem?_eq_getElem hj]
      rfl) (by
      intro z hz
      obtain ⟨y, _, rfl⟩ := List.mem_map.1 hz
      rfl) (by unfold maxLen; omega) (Nat.le_trans (Nat.mul_le_mul (show xs.length + ys.length ≤ 200000000 by omega) hby) (by decide)) hbase
  unfold Oper.wp execOp
  simp only [ho, resolve, invoke, builtin, Sem.run_bind, Sem.run_pure, Result.andThen_ok, List.map_toArray, List.map_cons, List.map_nil, hs, hx, hr]
  exact h v' w' (by unfold OwnK; rw [List.length_append, List.map_append]; exact h2) h3 h5
end Go.Proofs.YtbpmcjndlbkkiaaDoor
