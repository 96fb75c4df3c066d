/- Who writes each value of a history: in plain words. No condition but each theorem's own. -/
import Derived.Test.YtobfanodjdkkoaaMayTxn
import Derived.Test.YtobfanodjdkkoaaRef05d
set_option linter.unusedVariables false
set_option linter.unusedSimpArgs false
namespace Go.Proofs.Ytobfanodjdkkoaa
open Go.RowKit Go.Maps

/-- The keys and values of operations are ints. -/
def OpsOk (xs : List Opn) : Prop := KeysOk xs ∧ ∀ i, i < xs.length → (Lit.int .i64 (xs.getD i opZero).val).wf = true
def TxrOk (t : Txr) : Prop := OpsOk t.ops ∧ (Lit.int .i64 t.ses).wf = true ∧ (Lit.int .i64 t.beg).wf = true ∧ (Lit.int .i64 t.com).wf = true
def TxnsOk (hs : List Txr) : Prop := ∀ i, i < hs.length → TxrOk (hs.getD i txrZero)
/-- The cells as they stand later on; the operations as they stood. -/
theorem Txns.both {w w' : World} {A : Option Addr} {c n : Nat} {hs : List Txr} (h : Txns w (.slice A n c) hs) (hc : Ch nob w w') : ∀ j, j < hs.length → ∃ ad u, A = some ad ∧ w'.cell? (ad.add (j * 4)) = some (.int .i64 (hs.getD j txrZero).ses) ∧ w'.cell? ⟨(ad.add (j * 4)).block, (ad.add (j * 4)).off + 1, none⟩ = some (.int .i64 (hs.getD j txrZero).beg) ∧ w'.cell? ⟨(ad.add (j * 4)).block, (ad.add (j * 4)).off + 2, none⟩ = some (.int .i64 (hs.getD j txrZero).com) ∧ w'.cell? ⟨(ad.add (j * 4)).block, (ad.add (j * 4)).off + 3, none⟩ = some u ∧ Opl w u (hs.getD j txrZero).ops := by
  intro j hj
  obtain ⟨_, _, hx⟩ := h.at
  obtain ⟨ad, u, h0, h1, h2, h3, h4, h5⟩ := hx j hj
  have keep : ∀ p v, w.cell? p = some v → w'.cell? p = some v := fun p v h1 => by
    have hb := World.block_lt_of_cell? w _ h1
    exact (World.cell?_of_block (hc.block _ hb (fun h => h))).trans h1
  exact ⟨ad, u, h0, keep _ _ h1, keep _ _ h2, keep _ _ h3, keep _ _ h4, h5⟩
/-- Who writes a value, to which key, and whether it is the last one. -/
structure Wr where
  txn : Int
  key : Int
  last : Bool
  deriving DecidableEq
def wrVal (o : Wr) : Value := .agg #[.int .i64 o.txn, .int .i64 o.key, .bool o.last]
def wrZero : Wr := ⟨0, 0, false⟩
abbrev WM := Int → Option Wr
def wmF (M : WM) : Int → Option Value := fun k => (M k).map wrVal
def putW (M : WM) (k : Int) (x : Wr) : WM := fun v => if v = k then some x else M v
theorem wmF_put (M : WM) (k : Int) (x : Wr) : putM (wmF M) k (wrVal x) = wmF (putW M k x) := by
  funext v
  unfold putM wmF putW
  split <;> rfl
/-- The first j operations of transaction t, written down; none: a value was there. -/
def opsF (t : Nat) (xs : List Opn) (M : WM) : Nat → Option WM
  | 0 => some M
  | j + 1 => (opsF t xs M j).bind fun N => if (xs.getD j opZero).wr then (if (N (xs.getD j opZero).val).isSome then none else some (putW N (xs.getD j opZero).val ⟨t, (xs.getD j opZero).key, false⟩)) else some N
theorem opsF_read {t : Nat} {xs : List Opn} {M N : WM} {j : Nat} (h : opsF t xs M j = some N) {x : Opn} (hx : xs.getD j opZero = x) (hw : x.wr = false) : opsF t xs M (j + 1) = some N := by
  unfold opsF; rw [h, hx]; simp [hw]
theorem opsF_new {t : Nat} {xs : List Opn} {M N : WM} {j : Nat} (h : opsF t xs M j = some N) {x : Opn} (hx : xs.getD j opZero = x) (hw : x.wr = true) (hm : N x.val = none) : opsF t xs M (j + 1) = some (putW N x.val ⟨t, x.key, false⟩) := by
  unfold opsF; rw [h, hx]; simp [hw, hm]
theorem opsF_twice {t : Nat} {xs : List Opn} {M N : WM} {j : Nat} (h : opsF t xs M j = some N) {x : Opn} (hx : xs.getD j opZero = x) (hw : x.wr = true) {y : Wr} (hm : N x.val = some y) : opsF t xs M (j + 1) = none := by
  unfold opsF; rw [h, hx]; simp [hw, hm]
theorem opsF_none {t : Nat} {xs : List Opn} {M : WM} {i j : Nat} (hij : i ≤ j) (h : opsF t xs M i = none) : opsF t xs M j = none := by
  induction j with
  | zero => obtain rfl : i = 0 := by omega
            exact h
  | succ j ih =>
    by_cases e : i = j + 1
    · rw [← e]; exact h
    · unfold opsF; rw [ih (by omega)]; rfl
theorem putW_some {N : WM} {k v : Int} {x : Wr} (h : (N v).isSome = true) : (putW N k x v).isSome = true := by
  unfold putW; split
  · rfl
  · exact h
theorem opsF_has {t : Nat} {xs : List Opn} {M : WM} : ∀ {l : Nat} {N : WM}, opsF t xs M l = some N → ∀ j, j < l → (xs.getD j opZero).wr = true → (N (xs.getD j opZero).val).isSome = true
  | 0, _, _, j, hj, _ => by omega
  | l + 1, N, h, j, hj, hw => by
    unfold opsF at h
    cases h0 : opsF t xs M l with
    | none => rw [h0] at h; cases h
    | some N0 =>
      rw [h0, Option.bind_some] at h
      by_cases e : j = l
      · subst e
        rw [if_pos hw] at h
        split at h
        · cases h
        · cases h; unfold putW; rw [if_pos rfl]; rfl
      · have ih := opsF_has h0 j (by omega) hw
        split at h
        · split at h
          · cases h
          · cases h; exact putW_some ih
        · cases h; exact ih
/-- Some values are marked as last ones. -/
def markF (M : WM) (p : Int → Bool) : WM := fun v => if p v then some { (M v).getD wrZero with last := true } else M v
theorem markF_none (M : WM) : markF M (fun _ => false) = M := by
  funext v; simp [markF]
theorem markF_step (M : WM) (p : Int → Bool) (k : Int) : putW (markF M p) k { ((markF M p) k).getD wrZero with last := true } = markF M (fun v => p v || v == k) := by
  funext v
  unfold putW markF
  by_cases e : v = k
  · subst e
    by_cases h : p v <;> simp [h]
  · simp [e]
/-- Is a value the last one that these operations write to its key? -/
def isLast (xs : List Opn) (v : Int) : Bool := xs.any fun o => o.wr && o.val == v && (match lastW xs xs.length o.key with | some y => y.wr == o.wr && y.key == o.key && y.val == o.val | none => false)
theorem opn_ext {x y : Opn} (h1 : x.wr = y.wr) (h2 : x.key = y.key) (h3 : x.val = y.val) : x = y := by
  obtain ⟨a, b, c⟩ := x; obtain ⟨a2, b2, c2⟩ := y
  simp at h1 h2 h3
  rw [h1, h2, h3]
theorem lastW_mem {xs : List Opn} {k : Int} {o : Opn} : ∀ {i}, i ≤ xs.length → lastW xs i k = some o → o ∈ xs ∧ o.wr = true ∧ o.key = k
  | 0, _, h => by cases h
  | i + 1, hi, h => by
    unfold lastW at h
    split at h
    · rename_i c
      cases h
      refine ⟨?_, c⟩
      rw [List.getD_eq_getElem?_getD, List.getElem?_eq_getElem (by omega)]
      exact List.getElem_mem _
    · exact lastW_mem (by omega) h
theorem isLast_iff (xs : List Opn) (v : Int) : isLast xs v = true ↔ ∃ o, o.val = v ∧ lastW xs xs.length o.key = some o := by
  unfold isLast
  rw [List.any_eq_true]
  constructor
  · rintro ⟨o, ho, h⟩
    simp only [Bool.and_eq_true, beq_iff_eq] at h
    obtain ⟨⟨hw, hv⟩, h⟩ := h
    cases hl : lastW xs xs.length o.key with
    | none => rw [hl] at h; cases h
    | some y =>
      rw [hl] at h
      simp only [Bool.and_eq_true, beq_iff_eq] at h
      exact ⟨o, hv, by rw [hl, opn_ext h.1.1 h.1.2 h.2]⟩
  · rintro ⟨o, hv, h⟩
    have h2 := lastW_mem (Nat.le_refl _) h
    exact ⟨o, h2.1, by rw [h]; simp [h2.2.1, hv]⟩
theorem isLast_of {xs ys : List Opn} (h : ∀ x, x ∈ ys ↔ lastW xs xs.length x.key = some x) : (fun v => ys.any fun o => v == o.val) = isLast xs := by
  funext v
  rw [Bool.eq_iff_iff, isLast_iff, List.any_eq_true]
  constructor
  · rintro ⟨o, h1, h2⟩
    exact ⟨o, (beq_iff_eq.1 h2).symm, (h o).1 h1⟩
  · rintro ⟨o, h1, h2⟩
    exact ⟨o, (h o).2 h2, by rw [h1]; exact beq_self_eq_true v⟩
theorem mark_take (M : WM) (ys : List Opn) (j : Nat) (hj : j < ys.length) (y : Opn) (hy : ys.getD j opZero = y) : putW (markF M fun v => (ys.take j).any fun o => v == o.val) y.val { ((markF M fun v => (ys.take j).any fun o => v == o.val) y.val).getD wrZero with last := true } = markF M fun v => (ys.take (j + 1)).any fun o => v == o.val := by
  rw [markF_step]
  congr 1
  funext v
  rw [List.take_add_one, List.any_append]
  rw [List.getD_eq_getElem?_getD, List.getElem?_eq_getElem hj, Option.getD_some] at hy
  rw [List.getElem?_eq_getElem hj, hy]
  simp
def txnF (t : Nat) (xs : List Opn) (M : WM) : Option WM := (opsF t xs M xs.length).map fun N => markF N (isLast xs)
/-- The first i transactions, written down. -/
def histF (hs : List Txr) : Nat → Option WM
  | 0 => some fun _ => none
  | i + 1 => (histF hs i).bind (txnF i (hs.getD i txrZero).ops)
theorem histF_none {hs : List Txr} {i j : Nat} (hij : i ≤ j) (h : histF hs i = none) : histF hs j = none := by
  induction j with
  | zero => obtain rfl : i = 0 := by omega
            exact h
  | succ j ih =>
    by_cases e : i = j + 1
    · rw [← e]; exact h
    · unfold histF; rw [ih (by omega)]; rfl
theorem histF_twice {hs : List Txr} {i j : Nat} {M : WM} (h : histF hs i = some M) {xs : List Opn} (hx : (hs.getD i txrZero).ops = xs) (hj : j ≤ xs.length) (h2 : opsF i xs M j = none) (hi : i < hs.length) : histF hs hs.length = none := by
  refine histF_none (i := i + 1) (by omega) ?_
  unfold histF
  rw [h, hx]
  show txnF i xs M = none
  unfold txnF
  rw [opsF_none hj h2]
  rfl
theorem histF_step {hs : List Txr} {i : Nat} {M N : WM} (h : histF hs i = some M) {xs : List Opn} (hx : (hs.getD i txrZero).ops = xs) (h2 : opsF i xs M xs.length = some N) : histF hs (i + 1) = some (markF N (isLast xs)) := by
  unfold histF
  rw [h, hx]
  show txnF i xs M = _
  unfold txnF
  rw [h2]
  rfl
/-- How many of the first j operations are writes. -/
def wrN (xs : List Opn) : Nat → Nat
  | 0 => 0
  | j + 1 => wrN xs j + if (xs.getD j opZero).wr then 1 else 0
theorem wrN_le (xs : List Opn) : ∀ j, wrN xs j ≤ j
  | 0 => Nat.le_refl _
  | j + 1 => by have := wrN_le xs j; unfold wrN; split <;> omega
def wrT (hs : List Txr) : Nat → Nat
  | 0 => 0
  | i + 1 => wrT hs i + wrN (hs.getD i txrZero).ops (hs.getD i txrZero).ops.length
theorem wrT_le (hs : List Txr) : ∀ i, wrT hs i ≤ countTo hs i
  | 0 => Nat.le_refl _
  | i + 1 => by have := wrT_le hs i; have := wrN_le (hs.getD i txrZero).ops (hs.getD i txrZero).ops.length; unfold wrT countTo; omega
end Go.Proofs.Ytobfanodjdkkoaa
