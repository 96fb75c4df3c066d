/- Slices of operations and of transactions that came in read as lists; their lengths are bounded by the row's own reach. No condition. -/
import Derived.Test.YtobfanodjdkkoaaHistP
import Derived.Test.YtobfanodjdkkoaaOplOpen
import Derived.SizedLaws
set_option linter.unusedVariables false
set_option linter.unusedSimpArgs false
namespace Go.Proofs.Ytobfanodjdkkoaa
open Go.RowKit Go.ChangeShapes Go.WideShapes Go.Deep

theorem weights_all {H : Type} {P : Program} {e : TypeId} : ∀ {l : List (DataW H)} {d : DataW H}, d ∈ l → ∀ n ∈ d.weights P e, n ∈ DataW.weightsAll P e l
  | [], d, h, _, _ => by cases h
  | d0 :: r, d, h, n, hn => by
    simp only [DataW.weightsAll, List.mem_append]
    rcases List.mem_cons.1 h with rfl | h
    · exact Or.inl hn
    · exact Or.inr (weights_all h n hn)
theorem bytes_op : Try.prog.bytesOf 35 = 24 := by kernel_rfl
theorem bytes_txn : Try.prog.bytesOf 33 = 48 := by kernel_rfl
theorem under_txns : Try.prog.underlying 22 = some (.slice 33) := by kernel_rfl
set_option maxRecDepth 100000 in
theorem ops_open2 {H : Type} {enc : TypeId × Value → H} {W : World} {base : Nat} {spare : Nat → Bool} {held : Bool} {fuel : Nat} {v : Value} {x : DataW H × List MemPlace}
    (h : DataW.trod enc Try.prog W base spare held fuel 31 [v] = some x) (hw : ∀ n ∈ x.1.weights Try.prog 31, n ≤ reachBytes) : ∃ xs, Opl W v xs ∧ OpsOk xs ∧ xs.length ≤ reachBytes := by
  rcases open_slice under_ops h with ⟨hcs, _⟩ | ⟨a, l, c, m, n, D, Pl, hcs, _, hl, hm, hmm, hxx, hx⟩
  · simp at hcs
    subst hcs
    exact ⟨[], Opl.nil _ _ _, ⟨fun i hi => by simp at hi, fun i hi => by simp at hi⟩, by simp⟩
  · simp at hcs
    subst hcs
    have hlm : l ≤ m := by rw [hmm]; split <;> omega
    have hlen : l ≤ reachBytes := by
      rw [hxx] at hw
      have := hw ((l + (m - l)) * 24) (by simp [DataW.weights, under_ops, bytes_op])
      omega
    have cb : Try.prog.cellsOf 4 = 1 := by kernel_rfl
    have ci : Try.prog.cellsOf 3 = 1 := by kernel_rfl
    have ub : Try.prog.underlying 4 = some .bool := by kernel_rfl
    have ce : Try.prog.cellsOf 35 = 3 := by kernel_rfl
    have each : ∀ i, i < l → ∃ y : Opn, W.cell? (a.add (i * 3)) = some (.bool y.wr) ∧ W.cell? (a.add (i * 3 + 1)) = some (.int .i64 y.key) ∧ W.cell? (a.add (i * 3 + 2)) = some (.int .i64 y.val) ∧ (Lit.int .i64 y.key).wf = true ∧ (Lit.int .i64 y.val).wf = true := by
      intro i hi
      obtain ⟨cs', h1, h2⟩ := hx i (by omega)
      rw [ce] at h1
      obtain ⟨_, hlen, hcell⟩ := World.cells?_some h1
      obtain ⟨y0, y1, y2, k, _, hxl, g0, g1, g2⟩ := trod_struct3 Try.underlying35 h2
      match cs', hlen with
      | [v0, v1, v2], _ =>
        simp [cb, ci] at g0 g1 g2
        have e0 := hcell 0 (by omega)
        have e1 := hcell 1 (by omega)
        have e2 := hcell 2 (by omega)
        rw [add_add] at e0 e1 e2
        obtain ⟨b, hb, _⟩ := DataW.trod_bool ub g0
        obtain ⟨z1, hz1, _, hw1⟩ := DataW.trod_int under_int g1
        obtain ⟨z2, hz2, _, hw2⟩ := DataW.trod_int under_int g2
        simp at hb hz1 hz2 e0 e1 e2
        subst hb hz1 hz2
        exact ⟨⟨b, z1, z2⟩, e0, e1, e2, hw1, hw2⟩
    obtain ⟨Y, hY⟩ := @choose_lt Opn ⟨opZero⟩ l _ each
    have hg : ∀ j, j < l → ((List.range l).map Y).getD j opZero = Y j := fun j hj => by
      rw [List.getD_eq_getElem?_getD, List.getElem?_map, List.getElem?_range hj]; rfl
    refine ⟨(List.range l).map Y, ⟨some a, c, by simp, by simp; unfold maxLen at hm; omega, fun _ => ⟨a, rfl, fun j hj => ?_⟩⟩, ⟨fun j hj => ?_, fun j hj => ?_⟩, by simpa using hlen⟩
    · have hj2 : j < l := by simpa using hj
      obtain ⟨e0, e1, e2, _⟩ := hY j hj2
      rw [hg j hj2, add_next _ _ _ (by omega), add_next _ _ _ (by omega)]
      exact ⟨e0, e1, e2⟩
    · have hj2 : j < l := by simpa using hj
      rw [hg j hj2]
      exact (hY j hj2).2.2.2.1
    · have hj2 : j < l := by simpa using hj
      rw [hg j hj2]
      exact (hY j hj2).2.2.2.2
/-- No transaction has more operations than memory holds. -/
def LensOk (hs : List Txr) : Prop := ∀ i, i < hs.length → (hs.getD i txrZero).ops.length ≤ reachBytes
set_option maxRecDepth 100000 in
theorem txns_open {H : Type} {enc : TypeId × Value → H} {W : World} {base : Nat} {spare : Nat → Bool} {held : Bool} {fuel : Nat} {v : Value} {x : DataW H × List MemPlace}
    (h : DataW.trod enc Try.prog W base spare held fuel 22 [v] = some x) (hw : ∀ n ∈ x.1.weights Try.prog 22, n ≤ reachBytes) : ∃ hs, Txns W v hs ∧ TxnsOk hs ∧ LensOk hs ∧ hs.length ≤ reachBytes := by
  rcases open_slice under_txns h with ⟨hcs, _⟩ | ⟨a, l, c, m, n, D, Pl, hcs, _, hl, hm, hmm, hxx, hx⟩
  · simp at hcs
    subst hcs
    exact ⟨[], ⟨none, 0, rfl, by simp, fun h => absurd h (by simp)⟩, fun i hi => by simp at hi, fun i hi => by simp at hi, by simp⟩
  · simp at hcs
    subst hcs
    have hlm : l ≤ m := by rw [hmm]; split <;> omega
    rw [hxx] at hw
    have hlen : l ≤ reachBytes := by
      have := hw ((l + (m - l)) * 48) (by simp [DataW.weights, under_txns, bytes_txn])
      omega
    have hwD : ∀ i, i < l → ∀ n ∈ (D i).weights Try.prog 33, n ≤ reachBytes := fun i hi n hn => hw n (by
      simp only [DataW.weights, under_txns, List.mem_cons, List.mem_append]
      exact Or.inr (Or.inl (weights_all (d := D i) (List.mem_map.2 ⟨i, List.mem_range.2 hi, rfl⟩) n hn)))
    clear hw hxx
    have ci : Try.prog.cellsOf 3 = 1 := by kernel_rfl
    have co : Try.prog.cellsOf 31 = 1 := by kernel_rfl
    have ce : Try.prog.cellsOf 33 = 4 := by kernel_rfl
    have each : ∀ i, i < l → ∃ y : Txr, (∃ u, W.cell? (a.add (i * 4)) = some (.int .i64 y.ses) ∧ W.cell? (a.add (i * 4 + 1)) = some (.int .i64 y.beg) ∧ W.cell? (a.add (i * 4 + 2)) = some (.int .i64 y.com) ∧ W.cell? (a.add (i * 4 + 3)) = some u ∧ Opl W u y.ops) ∧ TxrOk y ∧ y.ops.length ≤ reachBytes := by
      intro i hi
      obtain ⟨cs', h1, h2⟩ := hx i (by omega)
      rw [ce] at h1
      obtain ⟨_, hlen4, hcell⟩ := World.cells?_some h1
      obtain ⟨ys, k, _, hag, hxl, hys, hf⟩ := DataW.trod_struct Try.underlying33 h2
      match cs', hlen4 with
      | [v0, v1, v2, v3], _ =>
        match ys, hys with
        | [y0, y1, y2, y3], _ =>
          have g0 := hf 0 _ rfl
          have g1 := hf 1 _ rfl
          have g2 := hf 2 _ rfl
          have g3 := hf 3 _ rfl
          simp [ci, co] at g0 g1 g2 g3
          have e0 := hcell 0 (by omega)
          have e1 := hcell 1 (by omega)
          have e2 := hcell 2 (by omega)
          have e3 := hcell 3 (by omega)
          rw [add_add] at e0 e1 e2 e3
          obtain ⟨z0, hz0, _, hw0⟩ := DataW.trod_int under_int g0
          obtain ⟨z1, hz1, _, hw1⟩ := DataW.trod_int under_int g1
          obtain ⟨z2, hz2, _, hw2⟩ := DataW.trod_int under_int g2
          simp at hz0 hz1 hz2 e0 e1 e2 e3
          subst hz0 hz1 hz2
          have hDi : D i = .agg [y0.1, y1.1, y2.1, y3.1] := by simpa using congrArg Prod.fst hag
          obtain ⟨xs, hxs, hok, hll⟩ := ops_open2 g3 (fun n hn => hwD i hi n (by
            rw [hDi]
            simp only [DataW.weights, Try.underlying33]
            exact DataW.weights_mem_each (j := 3) (t := 31) (d := y3.1) (by rfl) (by rfl) n hn))
          exact ⟨⟨z0, z1, z2, xs⟩, ⟨v3, e0, e1, e2, e3, hxs⟩, ⟨hok, hw0, hw1, hw2⟩, hll⟩
    obtain ⟨Y, hY⟩ := @choose_lt Txr ⟨txrZero⟩ l _ each
    have hg : ∀ j, j < l → ((List.range l).map Y).getD j txrZero = Y j := fun j hj => by
      rw [List.getD_eq_getElem?_getD, List.getElem?_map, List.getElem?_range hj]; rfl
    refine ⟨(List.range l).map Y, ⟨some a, c, by simp, by simp; unfold maxLen at hm; omega, fun _ => ⟨a, rfl, fun j hj => ?_⟩⟩, fun j hj => ?_, fun j hj => ?_, by simpa using hlen⟩
    · have hj2 : j < l := by simpa using hj
      obtain ⟨⟨u, e0, e1, e2, e3, e4⟩, _⟩ := hY j hj2
      refine ⟨u, ?_⟩
      rw [hg j hj2, add_next _ _ _ (by omega), add_next _ _ _ (by omega), add_next _ _ _ (by omega)]
      exact ⟨e0, e1, e2, e3, e4⟩
    · have hj2 : j < l := by simpa using hj
      rw [hg j hj2]
      exact (hY j hj2).2.1
    · have hj2 : j < l := by simpa using hj
      rw [hg j hj2]
      exact (hY j hj2).2.2
end Go.Proofs.Ytobfanodjdkkoaa
