/- Parts of incoming rows of operations. No condition. -/
import Derived.Test.YtobfanodjdkkoaaDoorOpl
import Derived.Deep.Slices
set_option linter.unusedVariables false
set_option linter.unusedSimpArgs false
namespace Go.Proofs.YtobfanodjdkkoaaDoor
open Go.RowKit

theorem Opl.take {w : World} {ad : Addr} {n c : Nat} {xs : List Opn} (h : Opl w (.slice (some ad) n c) xs) (k c2 : Nat) (hk : k ≤ n) (hc : k ≤ c2) : Opl w (.slice (some ad) k c2) (xs.take k) := by
  obtain ⟨rfl, ⟨hl1, hl2⟩, hx⟩ := h.at
  have hl : (xs.take k).length = k := by rw [List.length_take]; omega
  refine ⟨some ad, c2, by rw [hl], ⟨by omega, by omega⟩, fun _ => ⟨ad, rfl, fun j hj => ?_⟩⟩
  rw [hl] at hj
  obtain ⟨a2, e, h1⟩ := hx j (by omega)
  cases e
  have : (xs.take k).getD j opZero = xs.getD j opZero := by
    rw [List.getD_eq_getElem?_getD, List.getElem?_take, if_pos hj, ← List.getD_eq_getElem?_getD]
  rw [this]
  exact h1
theorem Opl.dropOf {w : World} {ad : Addr} {n c : Nat} {xs : List Opn} (h : Opl w (.slice (some ad) n c) xs) (k m c2 : Nat) (hk : k ≤ n) (hm : m = n - k) (hc : m ≤ c2) (b : Option Addr) (hb : k < n → b = some (ad.add (k * 3))) : Opl w (.slice b m c2) (xs.drop k) := by
  obtain ⟨rfl, ⟨hl1, hl2⟩, hx⟩ := h.at
  have hl : (xs.drop k).length = m := by rw [List.length_drop, hm]
  refine ⟨b, c2, by rw [hl], ⟨by omega, by omega⟩, fun h0 => ⟨ad.add (k * 3), hb (by omega), fun j hj => ?_⟩⟩
  rw [hl] at hj
  obtain ⟨a2, e, h1⟩ := hx (k + j) (by omega)
  cases e
  have : (xs.drop k).getD j opZero = xs.getD (k + j) opZero := by
    rw [List.getD_eq_getElem?_getD, List.getElem?_drop, ← List.getD_eq_getElem?_getD]
  rw [this, Deep.add_add, ← Nat.add_mul]
  exact h1
end Go.Proofs.YtobfanodjdkkoaaDoor
