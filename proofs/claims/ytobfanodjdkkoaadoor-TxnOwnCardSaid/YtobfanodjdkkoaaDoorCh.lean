/- Regions that draw their order and hold calls that make memory, but change none that was there: one walk in the order of the text. No condition. -/
import Derived.Test.YtobfanodjdkkoaaDoorArr
import Derived.Deep.MidRow
set_option linter.unusedVariables false
set_option linter.unusedSimpArgs false
namespace Go.Proofs.YtobfanodjdkkoaaDoor
open Go.RowKit

/-- The worlds that a world may have come to, where nothing old has changed. -/
structure Ext (w0 : World) where
  val : World
  ch : Ch nob w0 val
instance (w0 : World) : Nonempty (Ext w0) := ⟨⟨w0, Ch.refl _ _⟩⟩
theorem Ext.cell {w0 : World} {a : Addr} {v : Value} (h : w0.cell? a = some v) (u : Ext w0) : u.val.cell? a = some v :=
  (World.cell?_of_block (u.ch.block _ (World.block_lt_of_cell? w0 _ h) (fun h => h))).trans h
theorem Ext.blk {w0 : World} {g : Nat} {cs : Array Value} {T : TypeId} (h : Blk w0 g cs T) (u : Ext w0) : Blk u.val g cs T := h.ch u.ch (fun h => h)
theorem ext_of {P : Program} {f : FuncId} {args : Array Value} {w0 : World} {u : Ext w0} {v : Value}
    (h : Calls P f args u.val fun e w' => e = .returned v ∧ Ch nob u.val w') : Calls P f args u.val fun e w'' => e = .returned v ∧ ∃ m : Ext w0, w'' = m.val :=
  h.mono fun _ _ ⟨he, hc⟩ => ⟨he, ⟨_, u.ch.seq hc⟩, rfl⟩
theorem wp_region_ch {P : Program} {id : Nat} {Q : Exit → Act → World → Prop} {a : Act} {w w0 : World} {l : List Oper} (hm : P.follows .mixedOrders = true) (hB : Region.lexB .any l.toArray = true) (hc : Ch nob w0 w)
    (h : wpQuiet P l.toArray (fun w' => ∃ u : Ext w0, w' = u.val) (fun a' => ∀ w', (∃ u : Ext w0, w' = u.val) → Q .normal a' w') l a) : (Code.region id l.toArray true).wp P Q a w :=
  wp_region_quiet (C := fun w' => ∃ u : Ext w0, w' = u.val) hm hB ⟨⟨_, hc.drew⟩, rfl⟩ (by simpa using h)
theorem quiet_load_row {P : Program} {C : World → Prop} {o : Oper} {a : Act} {K : Act → Prop} (ty : TypeId) (x : Operand) (ho : o.op = .load ty x)
    (g : Nat) (hx : a.eval x = .pointer (some ⟨g, 0, none⟩)) (t : TypeId) (cs : Array Value) (hg : ∀ w, C w → Blk w g cs t) (d : TypeDesc)
    (hu : P.underlying ty = some d) (hd : (match d with | .struct _ | .array _ _ => true | _ => false) = true) (hi : (P.info? ty).map (·.size) = some cs.size)
    (h : K (a.put o.dst (.agg cs))) : o.quiet P a C K :=
  ⟨_, fun w hw => by
    unfold Oper.quietAt execOp
    simp only [ho, hx, Instr.loadAt, Instr.sureAddr, Sem.run_bind, Sem.run_pure, Result.andThen_ok, run_loadVar_row w g t ty cs (0, 0) d (hg w hw) hu hd hi]
    exact ⟨rfl, rfl⟩, h⟩
theorem Ch.of_drew {S : Nat → Prop} {w w' : World} (h : Ch S w.drew w') : Ch S w w' := ⟨h.os, h.tape, h.output, h.size, h.block⟩
theorem Ch.of_drewN {S : Nat → Prop} {w w' : World} {n : Nat} (h : Ch S (w.drewN n) w') : Ch S w w' := ⟨h.os, h.tape, h.output, h.size, h.block⟩
/-- The results of a function: an array's variable, and two slots. -/
theorem results_cell_row3 {P : Program} {fn : Func} {p u q : Tmp} {ty : TypeId} (h : fn.results = #[.cell p ty, .tmp u, .tmp q]) (tmps : Array Value) (w : World) (g : Nat) (t : TypeId) (cs : Array Value) (fr : Nat × Nat) (d : TypeDesc)
    (hp : tmps.getD p undef = .pointer (some ⟨g, 0, none⟩)) (hg : w.heap[g]? = some (.cells cs t fr))
    (hu : P.underlying ty = some d) (hd : (match d with | .struct _ | .array _ _ => true | _ => false) = true) (hi : (P.info? ty).map (·.size) = some cs.size) :
    (results fn tmps).run P w = .ok (.tuple #[.agg cs, tmps.getD u undef, tmps.getD q undef]) w := by
  have hp' : tmps[p]?.getD undef = .pointer (some ⟨g, 0, none⟩) := by simpa using hp
  simp [results, h, hp', asAddr, run_loadVar_row w g t ty cs fr d hg hu hd hi]
theorem rangeAt_keep {w w' : World} {b o : Nat} {cs : List Value} (h : w.rangeAt b o cs) (hc : Ch nob w w') : w'.rangeAt b o cs := fun j v hv => by
  have h1 := h j v hv
  exact (World.cell?_of_block (hc.block _ (World.block_lt_of_cell? w _ h1) (fun h => h))).trans h1
theorem rangeAt_blk {w : World} {g : Nat} {cs : Array Value} {T : TypeId} (h : Blk w g cs T) : w.rangeAt g 0 cs.toList := fun j v hv => by
  have h' : w.heap[g]? = some (.cells cs T (0, 0)) := h
  rw [Array.getElem?_toList] at hv
  simp [World.cell?, h', hv]
/-- A new row that is stored whole. -/
theorem new_row (w : World) (Z C : Array Value) (T : TypeId) : Blk ((w.alloc (.cells Z T)).setRow w.heap.size C) w.heap.size C T ∧ Ch nob w ((w.alloc (.cells Z T)).setRow w.heap.size C) :=
  ⟨(Blk.new w Z T).row C, ((Ch.refl nob w).alloc (.cells Z T)).setRow _ _ (fun h => by omega)⟩
end Go.Proofs.YtobfanodjdkkoaaDoor
