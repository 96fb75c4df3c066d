/- The library's merge of two stretches of operations by their keys. No condition but each theorem's own. -/
import Derived.Test.YtobfanodjdkkoaaDoorSortC
set_option linter.unusedVariables false
set_option linter.unusedSimpArgs false
namespace Go.Proofs.YtobfanodjdkkoaaDoor
open Go.RowKit

/-! ### Plain -/
/-- The first one carried up to k, and down to k. -/
def shl (D : Nat → Opn) (a k : Nat) : Nat → Opn := fun x => if a ≤ x ∧ x < k then D (x + 1) else if x = k then D a else D x
def shr (D : Nat → Opn) (m k : Nat) : Nat → Opn := fun x => if k < x ∧ x ≤ m then D (x - 1) else if x = k then D m else D x
theorem shl_zero (D : Nat → Opn) (a : Nat) : shl D a a = D := by
  funext x
  unfold shl
  (repeat' split) <;> first | omega | rfl | (subst_vars; rfl)
theorem shr_zero (D : Nat → Opn) (m : Nat) : shr D m m = D := by
  funext x
  unfold shr
  (repeat' split) <;> first | omega | rfl | (subst_vars; rfl)
theorem shl_succ (D : Nat → Opn) (a k : Nat) (h : a ≤ k) : swapD (shl D a k) k (k + 1) = shl D a (k + 1) := by
  funext x
  rw [swapD_get]
  unfold shl
  (repeat' split) <;> first | omega | rfl | (congr 1; omega)
theorem shr_succ (D : Nat → Opn) (m k : Nat) (h : k + 1 ≤ m) : swapD (shr D m (k + 1)) (k + 1) k = shr D m k := by
  funext x
  rw [swapD_get]
  unfold shr
  (repeat' split) <;> first | omega | rfl | (congr 1; omega)
theorem shl_shuf (D : Nat → Opn) (a b : Nat) : ∀ d, a + d < b → Shuf a b D (shl D a (a + d))
  | 0, h => by rw [Nat.add_zero, shl_zero]; exact Shuf.refl _ _ _
  | d + 1, h => by
    have := (shl_shuf D a b d (by omega)).trans (Shuf.swap (shl D a (a + d)) (i := a + d) (j := a + d + 1) (by omega) (by omega))
    rwa [shl_succ D a (a + d) (by omega)] at this
theorem shr_shuf (D : Nat → Opn) (a m : Nat) : ∀ d, d ≤ m → a ≤ m - d → Shuf a (m + 1) D (shr D m (m - d))
  | 0, _, h => by rw [Nat.sub_zero, shr_zero]; exact Shuf.refl _ _ _
  | d + 1, h0, h => by
    have := (shr_shuf D a m d (by omega) (by omega)).trans (Shuf.swap (shr D m (m - d)) (i := m - d) (j := m - (d + 1)) (by omega) (by omega))
    have e : m - d = m - (d + 1) + 1 := by omega
    rw [e, shr_succ D m (m - (d + 1)) (by omega)] at this
    exact this
theorem shl_sorted {D : Nat → Opn} {a i b : Nat} (ha : a + 1 ≤ i) (hi : i ≤ b) (hs : SortedOn D (a + 1) b) (h1 : a + 1 < i → (D (i - 1)).key ≤ (D a).key) (h2 : i < b → (D a).key ≤ (D i).key) : SortedOn (shl D a (i - 1)) a b := by
  have hlo : ∀ k, a + 1 ≤ k → k < i → (D k).key ≤ (D a).key := fun k hk1 hk2 => by
    by_cases e : k = i - 1
    · subst e; exact h1 (by omega)
    · have := hs k (i - 1) hk1 (by omega) (by omega)
      have := h1 (by omega)
      omega
  have hhi : ∀ k, i ≤ k → k < b → (D a).key ≤ (D k).key := fun k hk1 hk2 => by
    by_cases e : k = i
    · subst e; exact h2 (by omega)
    · have := hs i k (by omega) (by omega) hk2
      have := h2 (by omega)
      omega
  intro p q hp hpq hq
  unfold shl
  by_cases c1 : p < i - 1
  · rw [if_pos ⟨hp, c1⟩]
    by_cases c2 : q < i - 1
    · rw [if_pos ⟨by omega, c2⟩]; exact hs _ _ (by omega) (by omega) (by omega)
    · rw [if_neg (by omega)]
      by_cases c3 : q = i - 1
      · rw [if_pos c3]; exact hlo _ (by omega) (by omega)
      · rw [if_neg c3]; exact hs _ _ (by omega) (by omega) (by omega)
  · rw [if_neg (by omega)]
    by_cases c3 : p = i - 1
    · rw [if_pos c3, if_neg (by omega), if_neg (by omega)]; exact hhi _ (by omega) (by omega)
    · rw [if_neg c3, if_neg (by omega), if_neg (by omega)]; exact hs _ _ (by omega) (by omega) (by omega)
theorem shr_sorted {D : Nat → Opn} {a i m : Nat} (ha : a ≤ i) (hi : i ≤ m) (hs : SortedOn D a m) (h1 : a < i → (D (i - 1)).key ≤ (D m).key) (h2 : i < m → (D m).key ≤ (D i).key) : SortedOn (shr D m i) a (m + 1) := by
  have hlo : ∀ k, a ≤ k → k < i → (D k).key ≤ (D m).key := fun k hk1 hk2 => by
    by_cases e : k = i - 1
    · subst e; exact h1 (by omega)
    · have := hs k (i - 1) hk1 (by omega) (by omega)
      have := h1 (by omega)
      omega
  have hhi : ∀ k, i ≤ k → k < m → (D m).key ≤ (D k).key := fun k hk1 hk2 => by
    by_cases e : k = i
    · subst e; exact h2 (by omega)
    · have := hs i k (by omega) (by omega) hk2
      have := h2 (by omega)
      omega
  intro p q hp hpq hq
  unfold shr
  by_cases c1 : p < i
  · rw [if_neg (by omega), if_neg (by omega)]
    by_cases c2 : i < q
    · rw [if_pos ⟨c2, by omega⟩]
      by_cases c3 : p = q - 1
      · omega
      · exact hs _ _ (by omega) (by omega) (by omega)
    · rw [if_neg (by omega)]
      by_cases c3 : q = i
      · rw [if_pos c3]; exact hlo _ hp c1
      · rw [if_neg c3]; exact hs _ _ hp hpq (by omega)
  · by_cases c2 : p = i
    · rw [if_neg (by omega), if_pos c2, if_pos ⟨by omega, by omega⟩]; exact hhi _ (by omega) (by omega)
    · rw [if_pos ⟨by omega, by omega⟩, if_pos ⟨by omega, by omega⟩]; exact hs _ _ (by omega) (by omega) (by omega)
theorem rotR_left (D : Nat → Opn) (m e : Nat) : rotR D m m e = D := by
  funext k
  unfold rotR
  (repeat' split) <;> first | omega | rfl | (congr 1; omega)
theorem rotR_right (D : Nat → Opn) (s m : Nat) : rotR D s m m = D := by
  funext k
  unfold rotR
  (repeat' split) <;> first | omega | rfl | (congr 1; omega)
theorem rotR_shuf (D : Nat → Opn) (s m e : Nat) (h1 : s ≤ m) (h2 : m ≤ e) : Shuf s e D (rotR D s m e) := by
  refine ⟨fun k => if s ≤ k ∧ k < e then (if k < s + (e - m) then k + (m - s) else k - (e - m)) else k, fun k => if s ≤ k ∧ k < e then (if k < m then k + (e - m) else k - (m - s)) else k, fun k => ?_, fun k => ?_, fun k hk => ?_, fun k => ?_⟩
  · simp only []
    (repeat' split) <;> omega
  · simp only []
    (repeat' split) <;> omega
  · simp only []
    rw [if_neg hk]
  · unfold rotR
    simp only []
    (repeat' split) <;> rfl
/-- What the exchange leaves: two halves, each of two stretches that are in order, the first half below the second one. -/
structure Halves (D : Nat → Opn) (a s mid e b : Nat) : Prop where
  u : SortedOn D a s
  x : SortedOn D s mid
  v : SortedOn D mid e
  y : SortedOn D e b
  le : ∀ p q, a ≤ p → p < mid → mid ≤ q → q < b → (D p).key ≤ (D q).key
theorem halves {D : Nat → Opn} {a s m e b mid : Nat} (h1 : SortedOn D a m) (h2 : SortedOn D m b) (has : a ≤ s) (hsm : s ≤ m) (hme : m ≤ e) (heb : e ≤ b) (hmid : mid + m = s + e)
    (huy : a < s → e < b → (D (s - 1)).key ≤ (D e).key) (hxv : s < m → m < e → (D (e - 1)).key ≤ (D s).key) : Halves (rotR D s m e) a s mid e b := by
  have hv : ∀ k, k < s → rotR D s m e k = D k := fun k hk => by unfold rotR; rw [if_neg (by omega)]
  have hx : ∀ k, s ≤ k → k < mid → rotR D s m e k = D (k + (m - s)) := fun k h h' => by unfold rotR; rw [if_pos (by omega), if_pos (by omega)]
  have hv2 : ∀ k, mid ≤ k → k < e → rotR D s m e k = D (k - (e - m)) := fun k h h' => by unfold rotR; rw [if_pos (by omega), if_neg (by omega)]
  have hy : ∀ k, e ≤ k → rotR D s m e k = D k := fun k hk => by unfold rotR; rw [if_neg (by omega)]
  have le1 : ∀ i j, a ≤ i → i ≤ j → j < m → (D i).key ≤ (D j).key := fun i j hi hij hj => by
    by_cases e : i = j
    · subst e; omega
    · exact h1 i j hi (by omega) hj
  have le2 : ∀ i j, m ≤ i → i ≤ j → j < b → (D i).key ≤ (D j).key := fun i j hi hij hj => by
    by_cases e : i = j
    · subst e; omega
    · exact h2 i j hi (by omega) hj
  refine ⟨fun p q hp hpq hq => ?_, fun p q hp hpq hq => ?_, fun p q hp hpq hq => ?_, fun p q hp hpq hq => ?_, fun p q hp hp2 hq hq2 => ?_⟩
  · rw [hv p (by omega), hv q (by omega)]; exact h1 p q hp hpq (by omega)
  · rw [hx p (by omega) (by omega), hx q (by omega) (by omega)]; exact h2 _ _ (by omega) (by omega) (by omega)
  · rw [hv2 p (by omega) (by omega), hv2 q (by omega) (by omega)]; exact h1 _ _ (by omega) (by omega) (by omega)
  · rw [hy p (by omega), hy q (by omega)]; exact h2 _ _ (by omega) (by omega) (by omega)
  · by_cases c1 : p < s
    · rw [hv p c1]
      by_cases c2 : q < e
      · rw [hv2 q hq c2]; exact le1 _ _ hp (by omega) (by omega)
      · rw [hy q (by omega)]
        have k1 := le1 p (s - 1) hp (by omega) (by omega)
        have k2 := huy (by omega) (by omega)
        have k3 := le2 e q (by omega) (by omega) hq2
        omega
    · rw [hx p (by omega) hp2]
      by_cases c2 : q < e
      · rw [hv2 q hq c2]
        have k1 := le2 (p + (m - s)) (e - 1) (by omega) (by omega) (by omega)
        have k2 := hxv (by omega) (by omega)
        have k3 := le1 s (q - (e - m)) (by omega) (by omega) (by omega)
        omega
      · rw [hy q (by omega)]; exact le2 _ _ (by omega) (by omega) (by omega)
theorem sorted_join {D : Nat → Opn} {a m b : Nat} (h1 : SortedOn D a m) (h2 : SortedOn D m b) (h : a < m → m < b → (D (m - 1)).key ≤ (D m).key) : SortedOn D a b := by
  intro p q hp hpq hq
  by_cases c1 : q < m
  · exact h1 p q hp hpq c1
  · by_cases c2 : m ≤ p
    · exact h2 p q c2 hpq hq
    · have k2 := h (by omega) (by omega)
      have k1 : (D p).key ≤ (D (m - 1)).key := by
        by_cases e : p = m - 1
        · rw [e]; omega
        · exact h1 p (m - 1) hp (by omega) (by omega)
      have k3 : (D m).key ≤ (D q).key := by
        by_cases e : q = m
        · rw [e]; omega
        · exact h2 m q (Nat.le_refl _) (by omega) hq
      omega
theorem halves_done {D D3 D4 : Nat → Opn} {a s mid e b : Nat} (h : Halves D a s mid e b) (ham : a ≤ mid) (hmb : mid ≤ b) (h1 : Shuf a mid D D3) (s1 : SortedOn D3 a mid) (h2 : Shuf mid b D3 D4) (s2 : SortedOn D4 mid b) : Shuf a b D D4 ∧ SortedOn D4 a b := by
  refine ⟨(h1.mono (Nat.le_refl _) hmb).trans (h2.mono ham (Nat.le_refl _)), fun p q hp hpq hq => ?_⟩
  by_cases c1 : q < mid
  · rw [h2.out p (by omega), h2.out q (by omega)]; exact s1 p q hp hpq c1
  · by_cases c2 : mid ≤ p
    · exact s2 p q c2 hpq hq
    · rw [h2.out p (by omega)]
      obtain ⟨i, hi1, hi2, he1⟩ := h1.mem p hp (by omega)
      obtain ⟨j, hj1, hj2, he2⟩ := h2.mem q (by omega) hq
      rw [he1, he2, h1.out j (by omega)]
      exact h.le i j hi1 hi2 hj1 hj2
end Go.Proofs.YtobfanodjdkkoaaDoor
