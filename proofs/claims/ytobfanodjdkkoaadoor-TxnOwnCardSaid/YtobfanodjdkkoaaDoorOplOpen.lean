/- A slice of operations that came in reads as a list. No condition. -/
import Derived.Test.YtobfanodjdkkoaaDoorTxnA
import Derived.Deep.Strs
import Derived.Deep.SlicePairs
set_option linter.unusedVariables false
set_option linter.unusedSimpArgs false
namespace Go.Proofs.YtobfanodjdkkoaaDoor
open Go.RowKit Go.ChangeShapes Go.WideShapes Go.Deep

theorem under_ops : Tryd.prog.underlying 22 = some (.slice 33) := by kernel_rfl
set_option maxRecDepth 100000 in
theorem ops_open {H : Type} {enc : TypeId × Value → H} {W : World} {base : Nat} {spare : Nat → Bool} {held : Bool} {fuel : Nat} {A : Option Addr} {len cap : Nat} {x : DataW H × List MemPlace}
    (h : DataW.trod enc Tryd.prog W base spare held fuel 22 [.slice A len cap] = some x) : ∃ xs, Opl W (.slice A len cap) xs ∧ KeysOk xs := by
  rcases open_slice under_ops h with ⟨hcs, _⟩ | ⟨a, l, c, m, n, D, Pl, hcs, _, hl, hm, hmm, _, hx⟩
  · simp at hcs
    obtain ⟨rfl, rfl, rfl⟩ := hcs
    exact ⟨[], Opl.nil _ _ _, fun i hi => by simp at hi⟩
  · simp at hcs
    obtain ⟨rfl, rfl, rfl⟩ := hcs
    have hlm : len ≤ m := by rw [hmm]; split <;> omega
    have cb : Tryd.prog.cellsOf 4 = 1 := by kernel_rfl
    have ci : Tryd.prog.cellsOf 3 = 1 := by kernel_rfl
    have ub : Tryd.prog.underlying 4 = some .bool := by kernel_rfl
    have ce : Tryd.prog.cellsOf 33 = 3 := by kernel_rfl
    have each : ∀ i, i < len → ∃ y : Opn, W.cell? (a.add (i * 3)) = some (.bool y.wr) ∧ W.cell? (a.add (i * 3 + 1)) = some (.int .i64 y.key) ∧ W.cell? (a.add (i * 3 + 2)) = some (.int .i64 y.val) ∧ (Lit.int .i64 y.key).wf = true := by
      intro i hi
      obtain ⟨cs', h1, h2⟩ := hx i (by omega)
      rw [ce] at h1
      obtain ⟨_, hlen, hcell⟩ := World.cells?_some h1
      obtain ⟨y0, y1, y2, k, _, hxl, g0, g1, g2⟩ := trod_struct3 Tryd.underlying33 h2
      match cs', hlen with
      | [v0, v1, v2], _ =>
        simp [cb, ci] at g0 g1 g2
        have e0 := hcell 0 (by omega)
        have e1 := hcell 1 (by omega)
        have e2 := hcell 2 (by omega)
        rw [add_add] at e0 e1 e2
        obtain ⟨b, hb, _⟩ := DataW.trod_bool ub g0
        obtain ⟨z1, hz1, _, hw1⟩ := DataW.trod_int under_int g1
        obtain ⟨z2, hz2, _, _⟩ := DataW.trod_int under_int g2
        simp at hb hz1 hz2 e0 e1 e2
        subst hb hz1 hz2
        exact ⟨⟨b, z1, z2⟩, e0, e1, e2, hw1⟩
    obtain ⟨Y, hY⟩ := @choose_lt Opn ⟨opZero⟩ len _ each
    have hg : ∀ j, j < len → ((List.range len).map Y).getD j opZero = Y j := fun j hj => by
      rw [List.getD_eq_getElem?_getD, List.getElem?_map, List.getElem?_range hj]; rfl
    refine ⟨(List.range len).map Y, ⟨some a, cap, by simp, by simp; unfold maxLen at hm; omega, fun _ => ⟨a, rfl, fun j hj => ?_⟩⟩, fun j hj => ?_⟩
    · have hj2 : j < len := by simpa using hj
      obtain ⟨e0, e1, e2, _⟩ := hY j hj2
      rw [hg j hj2, add_next _ _ _ (by omega), add_next _ _ _ (by omega)]
      exact ⟨e0, e1, e2⟩
    · have hj2 : j < len := by simpa using hj
      rw [hg j hj2]
      exact (hY j hj2).2.2.2
end Go.Proofs.YtobfanodjdkkoaaDoor
