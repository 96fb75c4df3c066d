/- A transaction that came in by value, opened. No condition. -/
import Derived.Test.YtobfanodjdkkoaaDoorOplOpen
import Derived.Test.YtobfanodjdkkoaaDoorTxns
import Derived.SizedLaws
set_option linter.unusedVariables false
set_option linter.unusedSimpArgs false
namespace Go.Proofs.YtobfanodjdkkoaaDoor
open Go.RowKit Go.ChangeShapes Go.WideShapes Go.Deep

set_option maxRecDepth 100000 in
theorem ops_open5 {H : Type} {enc : TypeId × Value → H} {W : World} {base : Nat} {spare : Nat → Bool} {held : Bool} {fuel : Nat} {v : Value} {x : DataW H × List MemPlace}
    (h : DataW.trod enc Tryd.prog W base spare held fuel 22 [v] = some x) : ∃ xs, Opl W v xs ∧ ∀ i, i < xs.length → (Lit.int .i64 (xs.getD i opZero).key).wf = true ∧ (Lit.int .i64 (xs.getD i opZero).val).wf = true := by
  rcases open_slice under_ops h with ⟨hcs, _⟩ | ⟨a, l, c, m, n, D, Pl, hcs, _, hl, hm, hmm, hxx, hx⟩
  · simp at hcs
    subst hcs
    exact ⟨[], Opl.nil _ _ _, fun i hi => by simp at hi⟩
  · simp at hcs
    subst hcs
    have hlm : l ≤ m := by rw [hmm]; split <;> omega
    have cb : Tryd.prog.cellsOf 4 = 1 := by kernel_rfl
    have ci : Tryd.prog.cellsOf 3 = 1 := by kernel_rfl
    have ub : Tryd.prog.underlying 4 = some .bool := by kernel_rfl
    have ce : Tryd.prog.cellsOf 33 = 3 := by kernel_rfl
    have each : ∀ i, i < l → ∃ y : Opn, W.cell? (a.add (i * 3)) = some (.bool y.wr) ∧ W.cell? (a.add (i * 3 + 1)) = some (.int .i64 y.key) ∧ W.cell? (a.add (i * 3 + 2)) = some (.int .i64 y.val) ∧ (Lit.int .i64 y.key).wf = true ∧ (Lit.int .i64 y.val).wf = true := by
      intro i hi
      obtain ⟨cs', h1, h2⟩ := hx i (by omega)
      rw [ce] at h1
      obtain ⟨_, hlen, hcell⟩ := World.cells?_some h1
      obtain ⟨y0, y1, y2, k, _, hxl, g0, g1, g2⟩ := trod_struct3 Tryd.underlying33 h2
      match cs', hlen with
      | [v0, v1, v2], _ =>
        simp [cb, ci] at g0 g1 g2
        have e0 := hcell 0 (by omega)
        have e1 := hcell 1 (by omega)
        have e2 := hcell 2 (by omega)
        rw [add_add] at e0 e1 e2
        obtain ⟨b, hb, _⟩ := DataW.trod_bool ub g0
        obtain ⟨z1, hz1, _, hw1⟩ := DataW.trod_int under_int g1
        obtain ⟨z2, hz2, _, hw2⟩ := DataW.trod_int under_int g2
        simp at hb hz1 hz2 e0 e1 e2
        subst hb hz1 hz2
        exact ⟨⟨b, z1, z2⟩, e0, e1, e2, hw1, hw2⟩
    obtain ⟨Y, hY⟩ := @choose_lt Opn ⟨opZero⟩ l _ each
    have hg : ∀ j, j < l → ((List.range l).map Y).getD j opZero = Y j := fun j hj => by
      rw [List.getD_eq_getElem?_getD, List.getElem?_map, List.getElem?_range hj]; rfl
    refine ⟨(List.range l).map Y, ⟨some a, c, by simp, by simp; unfold maxLen at hm; omega, fun _ => ⟨a, rfl, fun j hj => ?_⟩⟩, fun j hj => ?_⟩
    · have hj2 : j < l := by simpa using hj
      obtain ⟨e0, e1, e2, _⟩ := hY j hj2
      rw [hg j hj2, add_next _ _ _ (by omega), add_next _ _ _ (by omega)]
      exact ⟨e0, e1, e2⟩
    · have hj2 : j < l := by simpa using hj
      rw [hg j hj2]
      exact (hY j hj2).2.2.2
theorem txn_arg {H : Type} {enc : TypeId × Value → H} {W : World} {base : Nat} {spare : Nat → Bool} {held : Bool} {fuel : Nat} {cs : List Value} {x : DataW H × List MemPlace}
    (h : DataW.trod enc Tryd.prog W base spare held fuel 26 cs = some x) (hl : cs.length = 4) : ∃ z0 z1 z2 u xs, cs = [.int .i64 z0, .int .i64 z1, .int .i64 z2, u] ∧ (Lit.int .i64 z0).wf = true ∧ (Lit.int .i64 z1).wf = true ∧ (Lit.int .i64 z2).wf = true ∧ Opl W u xs ∧ ∀ i, i < xs.length → (Lit.int .i64 (xs.getD i opZero).key).wf = true ∧ (Lit.int .i64 (xs.getD i opZero).val).wf = true := by
  have ci : Tryd.prog.cellsOf 3 = 1 := by kernel_rfl
  have co : Tryd.prog.cellsOf 22 = 1 := by kernel_rfl
  obtain ⟨ys, k, _, hag, hxl, hys, hf⟩ := DataW.trod_struct Tryd.underlying26 h
  match cs, hl with
  | [v0, v1, v2, v3], _ =>
    match ys, hys with
    | [y0, y1, y2, y3], _ =>
      have g0 := hf 0 _ rfl
      have g1 := hf 1 _ rfl
      have g2 := hf 2 _ rfl
      have g3 := hf 3 _ rfl
      simp [ci, co] at g0 g1 g2 g3
      obtain ⟨z0, hz0, _, hw0⟩ := DataW.trod_int under_int g0
      obtain ⟨z1, hz1, _, hw1⟩ := DataW.trod_int under_int g1
      obtain ⟨z2, hz2, _, hw2⟩ := DataW.trod_int under_int g2
      simp at hz0 hz1 hz2
      subst hz0 hz1 hz2
      obtain ⟨xs, hxs, hok⟩ := ops_open5 g3
      exact ⟨z0, z1, z2, v3, xs, rfl, hw0, hw1, hw2, hxs, hok⟩
end Go.Proofs.YtobfanodjdkkoaaDoor
