/- Slices of transactions that are read as lists. No condition but each theorem's own. -/
import Derived.Test.YtobfanodjdkkoaaDoorTxnRight
set_option linter.unusedVariables false
set_option linter.unusedSimpArgs false
namespace Go.Proofs.YtobfanodjdkkoaaDoor
open Go.RowKit Go.Maps

def txrZero : Txr := ⟨0, 0, 0, []⟩
/-- A slice value reads as this list of transactions; nil and empty ones alike. -/
def Txns (w : World) (v : Value) (hs : List Txr) : Prop :=
  ∃ A c, v = .slice A hs.length c ∧ (hs.length ≤ c ∧ hs.length ≤ 9223372036854775807) ∧ (0 < hs.length → ∃ ad, A = some ad ∧ ∀ j, j < hs.length → ∃ u, w.cell? (ad.add (j * 4)) = some (.int .i64 (hs.getD j txrZero).ses) ∧ w.cell? ⟨(ad.add (j * 4)).block, (ad.add (j * 4)).off + 1, none⟩ = some (.int .i64 (hs.getD j txrZero).beg) ∧ w.cell? ⟨(ad.add (j * 4)).block, (ad.add (j * 4)).off + 2, none⟩ = some (.int .i64 (hs.getD j txrZero).com) ∧ w.cell? ⟨(ad.add (j * 4)).block, (ad.add (j * 4)).off + 3, none⟩ = some u ∧ Opl w u (hs.getD j txrZero).ops)
theorem Txns.keep {w w' : World} {v : Value} {hs : List Txr} (h : Txns w v hs) (hc : Ch nob w w') : Txns w' v hs := by
  obtain ⟨A, c, rfl, hl, hx⟩ := h
  refine ⟨A, c, rfl, hl, fun h0 => ?_⟩
  obtain ⟨ad, rfl, hcell⟩ := hx h0
  refine ⟨ad, rfl, fun j hj => ?_⟩
  have keep : ∀ p v, w.cell? p = some v → w'.cell? p = some v := fun p v h1 => by
    have hb := World.block_lt_of_cell? w _ h1
    exact (World.cell?_of_block (hc.block _ hb (fun h => h))).trans h1
  obtain ⟨u, h1, h2, h3, h4, h5⟩ := hcell j hj
  exact ⟨u, keep _ _ h1, keep _ _ h2, keep _ _ h3, keep _ _ h4, h5.keep hc⟩
theorem Txns.shape {w : World} {v : Value} {hs : List Txr} (h : Txns w v hs) : ∃ A c, v = .slice A hs.length c := by
  obtain ⟨A, c, rfl, _, _⟩ := h; exact ⟨A, c, rfl⟩
theorem Txns.at {w : World} {A : Option Addr} {c n : Nat} {hs : List Txr} (h : Txns w (.slice A n c) hs) : n = hs.length ∧ (hs.length ≤ c ∧ hs.length ≤ 9223372036854775807) ∧ ∀ j, j < hs.length → ∃ ad u, A = some ad ∧ w.cell? (ad.add (j * 4)) = some (.int .i64 (hs.getD j txrZero).ses) ∧ w.cell? ⟨(ad.add (j * 4)).block, (ad.add (j * 4)).off + 1, none⟩ = some (.int .i64 (hs.getD j txrZero).beg) ∧ w.cell? ⟨(ad.add (j * 4)).block, (ad.add (j * 4)).off + 2, none⟩ = some (.int .i64 (hs.getD j txrZero).com) ∧ w.cell? ⟨(ad.add (j * 4)).block, (ad.add (j * 4)).off + 3, none⟩ = some u ∧ Opl w u (hs.getD j txrZero).ops := by
  obtain ⟨A', c', hv, hl, hx⟩ := h
  simp only [Value.slice.injEq] at hv
  obtain ⟨rfl, rfl, rfl⟩ := hv
  refine ⟨rfl, hl, fun j hj => ?_⟩
  obtain ⟨ad, h1, h2⟩ := hx (by omega)
  obtain ⟨u, h3⟩ := h2 j hj
  exact ⟨ad, u, h1, h3⟩
end Go.Proofs.YtobfanodjdkkoaaDoor
