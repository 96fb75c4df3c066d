/- Rows of operations in a block: reads, and what a store of one leaves. No condition. -/
import Derived.Test.YtobfanodjdkkoaaDoorArr
set_option linter.unusedVariables false
set_option linter.unusedSimpArgs false
namespace Go.Proofs.YtobfanodjdkkoaaDoor
open Go.RowKit

/-- An operation: does it write, its key, its value. -/
structure Opn where
  wr : Bool
  key : Int
  val : Int
deriving DecidableEq
def opCells (o : Opn) : List Value := [.bool o.wr, .int .i64 o.key, .int .i64 o.val]
def opZero : Opn := ⟨false, 0, 0⟩
def opCell (o : Opn) : Nat → Value
  | 0 => .bool o.wr
  | 1 => .int .i64 o.key
  | _ => .int .i64 o.val
/-- A block's cells: n operations, and whatever lies behind them. -/
def opF (D : Nat → Opn) (R : Nat → Value) (n : Nat) (c : Nat) : Value := if c < 3 * n then opCell (D (c / 3)) (c % 3) else R c
def upd (D : Nat → Opn) (i : Nat) (x : Opn) : Nat → Opn := fun k => if k = i then x else D k
theorem opF_at (D : Nat → Opn) (R : Nat → Value) (n i : Nat) (h : i < n) : opF D R n (i * 3) = .bool (D i).wr ∧ opF D R n (i * 3 + 1) = .int .i64 (D i).key ∧ opF D R n (i * 3 + 2) = .int .i64 (D i).val := by
  unfold opF
  rw [if_pos (by omega), if_pos (by omega), if_pos (by omega), show i * 3 / 3 = i from by omega, show i * 3 % 3 = 0 from by omega, show (i * 3 + 1) / 3 = i from by omega, show (i * 3 + 1) % 3 = 1 from by omega, show (i * 3 + 2) / 3 = i from by omega, show (i * 3 + 2) % 3 = 2 from by omega]
  exact ⟨rfl, rfl, rfl⟩
/-- A block that holds n operations. -/
def OpBlk (w : World) (g N : Nat) (D : Nat → Opn) (R : Nat → Value) (n : Nat) (T : TypeId) : Prop := Blk w g (arrOf N (opF D R n)) T ∧ 3 * n ≤ N
theorem OpBlk.at {w : World} {g N : Nat} {D : Nat → Opn} {R : Nat → Value} {n : Nat} {T : TypeId} (h : OpBlk w g N D R n T) (i : Nat) (hi : i < n) :
    w.cell? ⟨g, i * 3, none⟩ = some (.bool (D i).wr) ∧ w.cell? ⟨g, i * 3 + 1, none⟩ = some (.int .i64 (D i).key) ∧ w.cell? ⟨g, i * 3 + 2, none⟩ = some (.int .i64 (D i).val) := by
  obtain ⟨hb, hN⟩ := h
  obtain ⟨h0, h1, h2⟩ := opF_at D R n i hi
  exact ⟨by rw [hb.cellOf _ (by omega), h0], by rw [hb.cellOf _ (by omega), h1], by rw [hb.cellOf _ (by omega), h2]⟩
theorem OpBlk.free {w : World} {g N : Nat} {D : Nat → Opn} {R : Nat → Value} {n : Nat} {T : TypeId} (h : OpBlk w g N D R n T) (i : Nat) : w.frozen? ⟨g, i, none⟩ = false := h.1.free i
theorem OpBlk.ch {S : Nat → Prop} {w w' : World} {g N : Nat} {D : Nat → Opn} {R : Nat → Value} {n : Nat} {T : TypeId} (h : OpBlk w g N D R n T) (hc : Ch S w w') (hn : ¬ S g) : OpBlk w' g N D R n T := ⟨h.1.ch hc hn, h.2⟩
theorem OpBlk.keep {w w' : World} {g N : Nat} {D : Nat → Opn} {R : Nat → Value} {n : Nat} {T : TypeId} (h : OpBlk w g N D R n T) (hc : Ch nob w w') : OpBlk w' g N D R n T := h.ch hc (fun h => h)
theorem OpBlk.drew {w : World} {g N : Nat} {D : Nat → Opn} {R : Nat → Value} {n : Nat} {T : TypeId} (h : OpBlk w g N D R n T) : OpBlk w.drew g N D R n T := ⟨h.1.drew, h.2⟩
theorem OpBlk.congr {w : World} {g N : Nat} {D D' : Nat → Opn} {R : Nat → Value} {n : Nat} {T : TypeId} (h : OpBlk w g N D R n T) (he : ∀ i, i < n → D i = D' i) : OpBlk w g N D' R n T :=
  ⟨h.1.congr fun c _ => by
    unfold opF
    by_cases hc : c < 3 * n
    · rw [if_pos hc, if_pos hc, he (c / 3) (by omega)]
    · rw [if_neg hc, if_neg hc], h.2⟩
/-- One operation stored, cell by cell. -/
def putOp (w : World) (g i : Nat) (x : Opn) : World := ((w.setCell ⟨g, i * 3, none⟩ (.bool x.wr)).setCell ⟨g, i * 3 + 1, none⟩ (.int .i64 x.key)).setCell ⟨g, i * 3 + 2, none⟩ (.int .i64 x.val)
theorem OpBlk.put {w : World} {g N : Nat} {D : Nat → Opn} {R : Nat → Value} {n : Nat} {T : TypeId} (h : OpBlk w g N D R n T) (i : Nat) (hi : i < n) (x : Opn) : OpBlk (putOp w g i x) g N (upd D i x) R n T := by
  refine ⟨(((h.1.setOf (i * 3) (.bool x.wr)).setOf (i * 3 + 1) (.int .i64 x.key)).setOf (i * 3 + 2) (.int .i64 x.val)).congr fun c _ => ?_, h.2⟩
  unfold opF upd
  by_cases hc : c < 3 * n
  · rw [if_pos hc, if_pos hc]
    by_cases e : c / 3 = i
    · rw [if_pos e]
      have h3 : c % 3 = 0 ∨ c % 3 = 1 ∨ c % 3 = 2 := by omega
      rcases h3 with h3 | h3 | h3
      · rw [if_neg (by omega), if_neg (by omega), if_pos (by omega), h3]; rfl
      · rw [if_neg (by omega), if_pos (by omega), h3]; rfl
      · rw [if_pos (by omega), h3]; rfl
    · rw [if_neg (by omega), if_neg (by omega), if_neg (by omega), if_neg e]
  · rw [if_neg hc, if_neg hc, if_neg (by omega), if_neg (by omega), if_neg (by omega)]
theorem putOp_ch (w : World) (g i : Nat) (x : Opn) : Ch (· = g) w (putOp w g i x) :=
  (((Ch.refl (· = g) w).setCell ⟨g, i * 3, none⟩ _ (fun _ => rfl)).setCell ⟨g, i * 3 + 1, none⟩ _ (fun _ => rfl)).setCell ⟨g, i * 3 + 2, none⟩ _ (fun _ => rfl)

/-! ### Shuffles -/
/-- D' is D, with what lies from a to b in another order. -/
def Shuf (a b : Nat) (D D' : Nat → Opn) : Prop := ∃ s t : Nat → Nat, (∀ k, t (s k) = k) ∧ (∀ k, s (t k) = k) ∧ (∀ k, ¬ (a ≤ k ∧ k < b) → s k = k) ∧ ∀ k, D' k = D (s k)
theorem Shuf.refl (a b : Nat) (D : Nat → Opn) : Shuf a b D D := ⟨id, id, fun _ => rfl, fun _ => rfl, fun _ _ => rfl, fun _ => rfl⟩
theorem Shuf.trans {a b : Nat} {D E F : Nat → Opn} (h : Shuf a b D E) (k : Shuf a b E F) : Shuf a b D F := by
  obtain ⟨s, t, h1, h2, h3, h4⟩ := h
  obtain ⟨s', t', k1, k2, k3, k4⟩ := k
  exact ⟨fun x => s (s' x), fun x => t' (t x), fun x => by simp [h1, k1], fun x => by simp [h2, k2], fun x hx => by simp only [k3 x hx, h3 x hx], fun x => by rw [k4, h4]⟩
theorem Shuf.mono {a b a' b' : Nat} {D E : Nat → Opn} (h : Shuf a b D E) (ha : a' ≤ a) (hb : b ≤ b') : Shuf a' b' D E := by
  obtain ⟨s, t, h1, h2, h3, h4⟩ := h
  exact ⟨s, t, h1, h2, fun x hx => h3 x (by omega), h4⟩
theorem Shuf.out {a b : Nat} {D E : Nat → Opn} (h : Shuf a b D E) (k : Nat) (hk : ¬ (a ≤ k ∧ k < b)) : E k = D k := by
  obtain ⟨s, t, h1, h2, h3, h4⟩ := h
  rw [h4, h3 k hk]
theorem Shuf.mem {a b : Nat} {D E : Nat → Opn} (h : Shuf a b D E) (k : Nat) (ha : a ≤ k) (hb : k < b) : ∃ j, a ≤ j ∧ j < b ∧ E k = D j := by
  obtain ⟨s, t, h1, h2, h3, h4⟩ := h
  by_cases hs : a ≤ s k ∧ s k < b
  · exact ⟨s k, hs.1, hs.2, h4 k⟩
  · have e := h3 (s k) hs
    have e2 : s k = k := by
      have := congrArg t e
      rwa [h1, h1] at this
    rw [e2] at hs
    exact absurd ⟨ha, hb⟩ hs
theorem Shuf.symm {a b : Nat} {D E : Nat → Opn} (h : Shuf a b D E) : Shuf a b E D := by
  obtain ⟨s, t, h1, h2, h3, h4⟩ := h
  refine ⟨t, s, h2, h1, fun k hk => ?_, fun k => by rw [h4, h2]⟩
  have := congrArg t (h3 k hk)
  rw [h1] at this
  exact this.symm
theorem Shuf.inj {a b : Nat} {D E : Nat → Opn} (h : Shuf a b D E) (hd : ∀ i j, a ≤ i → i < b → a ≤ j → j < b → (D i).key = (D j).key → i = j) : ∀ i j, a ≤ i → i < b → a ≤ j → j < b → (E i).key = (E j).key → i = j := by
  obtain ⟨s, t, h1, h2, h3, h4⟩ := id h
  intro i j hi1 hi2 hj1 hj2 he
  rw [h4, h4] at he
  have hs : ∀ k, a ≤ k → k < b → a ≤ s k ∧ s k < b := fun k ha hb => by
    by_cases hs : a ≤ s k ∧ s k < b
    · exact hs
    · have e := h3 (s k) hs
      have e2 : s k = k := by
        have := congrArg t e
        rwa [h1, h1] at this
      omega
  have := hd (s i) (s j) (hs i hi1 hi2).1 (hs i hi1 hi2).2 (hs j hj1 hj2).1 (hs j hj1 hj2).2 he
  have := congrArg t this
  rwa [h1, h1] at this
/-- Two changed places. -/
def swapD (D : Nat → Opn) (i j : Nat) : Nat → Opn := upd (upd D i (D j)) j (D i)
theorem swapD_get (D : Nat → Opn) (i j k : Nat) : swapD D i j k = if k = j then D i else if k = i then D j else D k := rfl
theorem Shuf.swap {a b i j : Nat} (D : Nat → Opn) (hi : a ≤ i ∧ i < b) (hj : a ≤ j ∧ j < b) : Shuf a b D (swapD D i j) := by
  refine ⟨fun k => if k = j then i else if k = i then j else k, fun k => if k = j then i else if k = i then j else k, fun k => ?_, fun k => ?_, fun k hk => ?_, fun k => ?_⟩
  · by_cases h1 : k = j <;> by_cases h2 : k = i <;> by_cases h3 : i = j <;> simp_all
  · by_cases h1 : k = j <;> by_cases h2 : k = i <;> by_cases h3 : i = j <;> simp_all
  · show (if k = j then i else if k = i then j else k) = k
    rw [if_neg (by omega), if_neg (by omega)]
  · show swapD D i j k = D (if k = j then i else if k = i then j else k)
    rw [swapD_get]
    by_cases h1 : k = j
    · rw [if_pos h1, if_pos h1]
    · rw [if_neg h1, if_neg h1]
      by_cases h2 : k = i
      · rw [if_pos h2, if_pos h2]
      · rw [if_neg h2, if_neg h2]
/-- In order, by key. -/
def SortedOn (D : Nat → Opn) (a b : Nat) : Prop := ∀ i j, a ≤ i → i < j → j < b → (D i).key ≤ (D j).key
end Go.Proofs.YtobfanodjdkkoaaDoor
