/- '==' of arrays whose elements are one cell each. No condition. -/
import Derived.Test.YtbpmcjndlbkkiaaDoorArr
import Derived.Laws.StructEq
set_option linter.unusedVariables false
set_option linter.unusedSimpArgs false
namespace Go.Proofs.YtbpmcjndlbkkiaaDoor
open Go.RowKit

theorem loop_all {P : Program} (q : Nat → Bool) (E : Nat → Sem Bool) (l : List Nat) (w : World) (hE : ∀ i ∈ l, (E i).run P w = .ok (q i) w) :
    (forIn (m := Sem) l ((none, ()) : Option Bool × Unit) fun i __s => do
      let b ← E i
      if (!b) = true then pure (ForInStep.done (some false, ())) else pure (ForInStep.yield (none, ()))).run P w = .ok (if l.all q then (none, ()) else (some false, ())) w := by
  induction l with
  | nil => simp
  | cons i l ih =>
    rw [List.forIn_cons]
    simp only [Sem.run_bind, hE i (by simp), Result.andThen_ok]
    cases hq : q i
    · simp [hq]
    · have := ih (fun j hj => hE j (by simp [hj]))
      simp only [hq, Bool.not_true, Bool.false_eq_true, if_false, Sem.run_pure, Result.andThen_ok, List.all_cons, Bool.true_and]
      exact this
theorem run_equalIn_arr {P : Program} (T e : TypeId) (len : Nat) (hT : P.underlying T = some (.array len e)) (d : Nat) (f g : Nat → Value) (w : World) (q : Nat → Bool)
    (hs : (sizeOf e).run P w = .ok 1 w) (hag : (isAgg e).run P w = .ok false w) (hq : ∀ i, i < len → (Op.equalIn d e (f i) (g i)).run P w = .ok (q i) w) :
    (Op.equalIn (d + 1) T (.agg (arrOf len f)) (.agg (arrOf len g))).run P w = .ok ((List.range len).all q) w := by
  simp only [Op.equalIn, Sem.run_bind, run_underlying hT, Result.andThen_ok, hs]
  rw [Std.Legacy.Range.forIn_eq_forIn_range']
  have h1 := loop_all (P := P) q (fun i => do
    let a ← part e (arrOf len f) (i * 1)
    let b ← part e (arrOf len g) (i * 1)
    Op.equalIn d e a b) (List.range' 0 len) w (fun i hi => by
      have hi' : i < len := by simpa using hi
      simp [Sem.run_bind, part, hag, arrOf_get _ _ _ hi', hq i hi'])
  simp only [bind_assoc] at h1
  simp only [Std.Legacy.Range.size, Nat.sub_zero, Nat.add_sub_cancel, Nat.div_one]
  rw [h1]
  rw [List.range_eq_range']
  cases (List.range' 0 len).all q <;> simp
theorem run_eql_arr {P : Program} (T e : TypeId) (len : Nat) (hT : P.underlying T = some (.array len e)) (f g : Nat → Value) (w : World) (q : Nat → Bool)
    (hs : (sizeOf e).run P w = .ok 1 w) (hag : (isAgg e).run P w = .ok false w) (hq : ∀ i, i < len → (Op.equalIn 9999 e (f i) (g i)).run P w = .ok (q i) w) :
    (binOp .eql T (.agg (arrOf len f)) (.agg (arrOf len g))).run P w = .ok (.bool ((List.range len).all q)) w := by
  simp only [binOp]
  simp [Op.equal, Op.maxDepth, run_equalIn_arr T e len hT 9999 f g w q hs hag hq]

/-- A guarded operation whose guard lets it run. -/
theorem wpList_guarded {P : Program} {w : World} {ops : Array Oper} {rest : List Oper} {o : Oper} {a : Act} {Q : Exit → Act → World → Prop} (hw : Region.wanted o (yielded ops a.tmps) = true)
    (h : ∀ K : Act → World → Prop, (∀ a w, wpList P ops Q rest a w → K a w) → o.wp P a w K Q) : wpList P ops Q (o :: rest) a w :=
  wpList_step fun K hK => by rw [if_pos hw]; exact h K hK
theorem wpList_load_rowG {P : Program} {w : World} {ops : Array Oper} {rest : List Oper} {o : Oper} {a : Act} {Q : Exit → Act → World → Prop} (hw : Region.wanted o (yielded ops a.tmps) = true) (ty : TypeId) (x : Operand) (ho : o.op = .load ty x)
    (g : Nat) (hx : a.eval x = .pointer (some ⟨g, 0, none⟩)) (t : TypeId) (cs : Array Value) (fr : Nat × Nat) (d : TypeDesc) (hg : w.heap[g]? = some (.cells cs t fr))
    (hu : P.underlying ty = some d) (hd : (match d with | .struct _ | .array _ _ => true | _ => false) = true) (hi : (P.info? ty).map (·.size) = some cs.size)
    (h : wpList P ops Q rest (a.put o.dst (.agg cs)) w) : wpList P ops Q (o :: rest) a w :=
  wpList_guarded hw fun _ hK => wp_load_row ty x ho g hx t cs fr d hg hu hd hi (hK _ _ h)
end Go.Proofs.YtbpmcjndlbkkiaaDoor
