/- Operations as the laws make them (op.Read, op.Write); calls in regions that draw their order. No condition but each theorem's own. -/
import Derived.Test.YtobfanodjdkkoaaDoorYield
import Derived.Test.YtobfanodjdkkoaaDoorOpl
set_option linter.unusedVariables false
set_option linter.unusedSimpArgs false
namespace Go.Proofs.YtobfanodjdkkoaaDoor
open Go.RowKit

set_option maxRecDepth 20000 in
set_option maxHeartbeats 1000000 in
theorem op_write (k v : Int) (w : World) : Calls Tryd.prog 20 #[.int .i64 k, .int .i64 v] w fun e w' => e = .returned (.agg #[.bool true, .int .i64 k, .int .i64 v]) ∧ Ch nob w w' := by
  have hc0 : Ch nob w (w.alloc (.cells #[.bool true, .int .i64 k, .int .i64 v] 33)) := (Ch.refl _ _).alloc _
  go_enter Tryd.func20, Tryd.ntmps20
  go_wp2_with fail
  exact bodyPost_ret (results_cell_row rfl _ _ w.heap.size 33 #[.bool true, .int .i64 k, .int .i64 v] (0, 0) _ rfl (Blk.new _ _ _) rfl rfl (by kernel_rfl)) rfl ⟨rfl, hc0⟩
set_option maxRecDepth 20000 in
set_option maxHeartbeats 1000000 in
theorem op_read (k v : Int) (w : World) : Calls Tryd.prog 19 #[.int .i64 k, .int .i64 v] w fun e w' => e = .returned (.agg #[.bool false, .int .i64 k, .int .i64 v]) ∧ Ch nob w w' := by
  have hc0 : Ch nob w (w.alloc (.cells #[.bool false, .int .i64 k, .int .i64 v] 33)) := (Ch.refl _ _).alloc _
  go_enter Tryd.func19, Tryd.ntmps19
  go_wp2_with fail
  exact bodyPost_ret (results_cell_row rfl _ _ w.heap.size 33 #[.bool false, .int .i64 k, .int .i64 v] (0, 0) _ rfl (Blk.new _ _ _) rfl rfl (by kernel_rfl)) rfl ⟨rfl, hc0⟩
theorem yield_one {P : Program} {ops : Array Oper} {o : Oper} {a : Act} {w w' : World} {v : Value} {K : Act → World → Prop} {Q : Exit → Act → World → Prop} (hw : Region.wanted o (yielded ops a.tmps) = true) (hrun : (execOp a.eval o).run P w = .ok (.value v) w') (h : K (a.put o.dst v) w') : wpList P ops (Exit.then K Q) [o] a w :=
  wpList_step fun K' hK' => by
    rw [if_pos hw]
    unfold Oper.wp
    rw [hrun]
    exact hK' _ _ h
theorem yield_call {P : Program} {ops : Array Oper} {o : Oper} {a : Act} {w : World} {f : FuncId} {vs : Array Value} {K : Act → World → Prop} {Q : Exit → Act → World → Prop} (hw : Region.wanted o (yielded ops a.tmps) = true) (hrun : (execOp a.eval o).run P w = .ok (.enter f vs) w)
    (h : Calls P f vs w fun e w' => ∃ v, e = .returned v ∧ K (a.put o.dst v) w') : wpList P ops (Exit.then K Q) [o] a w :=
  wpList_step fun K' hK' => by
    rw [if_pos hw]
    unfold Oper.wp
    rw [hrun]
    refine Calls.mono h (fun e w' he => ?_)
    obtain ⟨v, rfl, hk⟩ := he
    exact hK' _ _ hk
theorem eval_slot {a : Act} {s : Nat} {v : Value} (h : a.tmps[s]? = some v) : a.eval (.tmp s) = v := by
  unfold Act.eval
  simp [h]
end Go.Proofs.YtobfanodjdkkoaaDoor
