/- A slice of pairs that came in reads as a list. No condition. -/
import Derived.Test.YtbpmcjndlbkkiaaDoorPair2
import Derived.Deep.SlicePairs
set_option linter.unusedVariables false
set_option linter.unusedSimpArgs false
namespace Go.Proofs.YtbpmcjndlbkkiaaDoor
open Go.RowKit Go.ChangeShapes

theorem pairs_open {W : World} {m len cap : Nat} {a : Addr} {V0 V1 : Nat → Value}
    (hl : len ≤ cap) (hc : cap ≤ maxLen) (hm : len ≤ m)
    (hall : ∀ i, i < m → W.cell? (a.add (i * 2)) = some (V0 i) ∧ W.cell? (a.add (i * 2 + 1)) = some (V1 i) ∧ (∃ z, V0 i = .int .i64 z) ∧ ∃ z, V1 i = .int .i64 z) : ∃ zs, Pairs W (.slice (some a) len cap) zs := by
  refine ⟨(List.range len).map fun i => (intOf (V0 i), intOf (V1 i)), some a, cap, by simp, by simp; unfold maxLen at hc; omega, fun _ => ⟨a, rfl, fun j hj => ?_⟩⟩
  have hj2 : j < len := by simpa using hj
  obtain ⟨h1, h2, ⟨z0, h3⟩, z1, h4⟩ := hall j (by omega)
  rw [add_snd, List.getD_eq_getElem?_getD, List.getElem?_map, List.getElem?_range hj2, h1, h2, h3, h4]
  exact ⟨by simp [intOf, h3], by simp [intOf, h4]⟩
end Go.Proofs.YtbpmcjndlbkkiaaDoor
