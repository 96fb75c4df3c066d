/- A read of what was written, or read, ahead of it, put behind it, changes nothing: in plain words. No condition but each theorem's own. -/
import Derived.Test.YtobfanodjdkkoaaDoorRef05d
set_option linter.unusedVariables false
set_option linter.unusedSimpArgs false
namespace Go.Proofs.YtobfanodjdkkoaaDoor
open Go.RowKit

/-- ys is xs with a read of the k-th one's key and value behind it. -/
structure Ins (xs ys : List Opn) (k : Nat) : Prop where
  len : ys.length = xs.length + 1
  kl : k < xs.length
  lo : ∀ j, j ≤ k → ys.getD j opZero = xs.getD j opZero
  mid : ys.getD (k + 1) opZero = ⟨false, (xs.getD k opZero).key, (xs.getD k opZero).val⟩
  hi : ∀ j, k < j → ys.getD (j + 1) opZero = xs.getD j opZero
theorem ins_of {xs : List Opn} {k : Nat} (hk : k < xs.length) : Ins xs ((([] ++ xs.take (k + 1)) ++ [⟨false, (xs.getD k opZero).key, (xs.getD k opZero).val⟩]) ++ xs.drop (k + 1)) k := by
  have ht : (xs.take (k + 1)).length = k + 1 := by rw [List.length_take]; omega
  refine ⟨by simp; omega, hk, fun j hj => ?_, ?_, fun j hj => ?_⟩
  · rw [List.getD_eq_getElem?_getD, List.getD_eq_getElem?_getD, List.nil_append, List.append_assoc, List.getElem?_append_left (by omega), List.getElem?_take, if_pos (by omega), ← List.getD_eq_getElem?_getD]
  · rw [List.getD_eq_getElem?_getD, List.nil_append, List.append_assoc, List.getElem?_append_right (by omega), ht, Nat.sub_self]
    rfl
  · rw [List.getD_eq_getElem?_getD, List.getD_eq_getElem?_getD, List.nil_append, List.append_assoc, List.getElem?_append_right (by omega), ht, show j + 1 - (k + 1) = (j - k - 1) + 1 by omega, List.cons_append, List.getElem?_cons_succ, List.nil_append, List.getElem?_drop, show k + 1 + (j - k - 1) = j by omega, ← List.getD_eq_getElem?_getD]
/-- The value of the last one of a key. -/
def lastV (xs : List Opn) (i : Nat) (k : Int) : Option Int := (lastAt xs i k).map Opn.val
theorem lastV_succ (xs : List Opn) (i : Nat) (k : Int) : lastV xs (i + 1) k = if (xs.getD i opZero).key = k then some (xs.getD i opZero).val else lastV xs i k := by
  unfold lastV
  show Option.map _ (if _ then _ else _) = _
  split <;> rfl
theorem lastV_lo {xs ys : List Opn} {k : Nat} (h : Ins xs ys k) (q : Int) : ∀ j, j ≤ k + 1 → lastV ys j q = lastV xs j q
  | 0, _ => rfl
  | j + 1, hj => by rw [lastV_succ, lastV_succ, h.lo j (by omega), lastV_lo h q j (by omega)]
theorem lastV_hi {xs ys : List Opn} {k : Nat} (h : Ins xs ys k) (q : Int) : ∀ j, k + 1 ≤ j → lastV ys (j + 1) q = lastV xs j q := by
  intro j hj
  induction j with
  | zero => omega
  | succ j ih =>
    by_cases e : j = k
    · subst e
      rw [lastV_succ ys (j + 1), h.mid, lastV_lo h q (j + 1) (Nat.le_refl _), lastV_succ]
      dsimp only
      split <;> rfl
    · rw [lastV_succ ys (j + 1), lastV_succ xs j, h.hi j (by omega), ih (by omega)]
theorem steadyAt_V (xs : List Opn) (i : Nat) : steadyAt xs i = (match lastV xs i (xs.getD i opZero).key with | some v => (xs.getD i opZero).wr || v == (xs.getD i opZero).val | none => true) := by
  unfold steadyAt lastV
  cases lastAt xs i (xs.getD i opZero).key <;> rfl
theorem readAt_V (xs : List Opn) (i : Nat) : readAt xs i = ((lastV xs i (xs.getD i opZero).key).isNone && !(xs.getD i opZero).wr) := by
  unfold readAt lastV
  cases lastAt xs i (xs.getD i opZero).key <;> rfl
theorem mid_V {xs ys : List Opn} {k : Nat} (h : Ins xs ys k) : lastV ys (k + 1) (ys.getD (k + 1) opZero).key = some (xs.getD k opZero).val := by
  rw [lastV_lo h _ (k + 1) (Nat.le_refl _), lastV_succ, h.mid, if_pos rfl]
theorem ins_steady {xs ys : List Opn} {k : Nat} (h : Ins xs ys k) : steadyB ys = steadyB xs := by
  have key : ∀ n, k + 1 ≤ n → (List.range (n + 1)).all (steadyAt ys) = (List.range n).all (steadyAt xs) := by
    intro n hn
    induction n with
    | zero => omega
    | succ n ih =>
      by_cases e : n = k
      · subst e
        have hmid : steadyAt ys (n + 1) = true := by
          rw [steadyAt_V, mid_V h, h.mid]
          simp
        have hlo : ∀ m, m ≤ n + 1 → (List.range m).all (steadyAt ys) = (List.range m).all (steadyAt xs) := by
          intro m
          induction m with
          | zero => intro _; rfl
          | succ m ih2 =>
            intro hm
            rw [List.range_succ, List.all_append, List.all_append, ih2 (by omega)]
            have : steadyAt ys m = steadyAt xs m := by rw [steadyAt_V, steadyAt_V, h.lo m (by omega), lastV_lo h _ m (by omega)]
            simp [this]
        rw [List.range_succ, List.all_append, hlo (n + 1) (Nat.le_refl _)]
        simp [hmid]
      · have h1 : steadyAt ys (n + 1) = steadyAt xs n := by rw [steadyAt_V, steadyAt_V, h.hi n (by omega), lastV_hi h _ n (by omega)]
        rw [List.range_succ, List.all_append, ih (by omega), List.range_succ (n := n), List.all_append]
        simp [h1]
  unfold steadyB
  rw [h.len]
  exact key xs.length h.kl
theorem readsK_lo {xs ys : List Opn} {k : Nat} (h : Ins xs ys k) (q : Int) : ∀ j, j ≤ k + 1 → readsK ys q j = readsK xs q j
  | 0, _ => rfl
  | j + 1, hj => by
    have : readAt ys j = readAt xs j := by rw [readAt_V, readAt_V, h.lo j (by omega), lastV_lo h _ j (by omega)]
    rw [readsK_succ, readsK_succ, this, h.lo j (by omega), readsK_lo h q j (by omega)]
theorem readsK_hi {xs ys : List Opn} {k : Nat} (h : Ins xs ys k) (q : Int) : ∀ j, k + 1 ≤ j → readsK ys q (j + 1) = readsK xs q j := by
  intro j hj
  induction j with
  | zero => omega
  | succ j ih =>
    by_cases e : j = k
    · subst e
      have hno : readAt ys (j + 1) = false := by rw [readAt_V, mid_V h]; rfl
      rw [readsK_succ ys, hno, if_neg (by simp), readsK_lo h q (j + 1) (Nat.le_refl _)]
    · have : readAt ys (j + 1) = readAt xs j := by rw [readAt_V, readAt_V, h.hi j (by omega), lastV_hi h _ j (by omega)]
      rw [readsK_succ ys, readsK_succ xs, this, h.hi j (by omega), ih (by omega)]
theorem ins_reads {xs ys : List Opn} {k : Nat} (h : Ins xs ys k) : ∀ q, readsR ys q = readsR xs q
  | 0 => rfl
  | q + 1 => by
    show readsR ys q ++ readsK ys (q : Int) ys.length = readsR xs q ++ readsK xs (q : Int) xs.length
    rw [ins_reads h q, h.len, readsK_hi h _ xs.length h.kl]
theorem lastW_succ (xs : List Opn) (i : Nat) (k : Int) : lastW xs (i + 1) k = if (xs.getD i opZero).wr = true ∧ (xs.getD i opZero).key = k then some (xs.getD i opZero) else lastW xs i k := rfl
theorem lastW_lo {xs ys : List Opn} {k : Nat} (h : Ins xs ys k) (q : Int) : ∀ j, j ≤ k + 1 → lastW ys j q = lastW xs j q
  | 0, _ => rfl
  | j + 1, hj => by rw [lastW_succ, lastW_succ, h.lo j (by omega), lastW_lo h q j (by omega)]
theorem lastW_hi {xs ys : List Opn} {k : Nat} (h : Ins xs ys k) (q : Int) : ∀ j, k + 1 ≤ j → lastW ys (j + 1) q = lastW xs j q := by
  intro j hj
  induction j with
  | zero => omega
  | succ j ih =>
    by_cases e : j = k
    · subst e
      rw [lastW_succ ys (j + 1), h.mid, lastW_lo h q (j + 1) (Nat.le_refl _), if_neg (by simp)]
    · rw [lastW_succ ys (j + 1), lastW_succ xs j, h.hi j (by omega), ih (by omega)]
theorem ins_lastW {xs ys : List Opn} {k : Nat} (h : Ins xs ys k) (q : Int) : lastW ys ys.length q = lastW xs xs.length q := by rw [h.len]; exact lastW_hi h q xs.length h.kl
theorem ins_writes {xs ys : List Opn} {k : Nat} (h : Ins xs ys k) : ∀ q, writesR ys q = writesR xs q
  | 0 => rfl
  | q + 1 => by
    show writesR ys q ++ (lastW ys ys.length (q : Int)).toList = writesR xs q ++ (lastW xs xs.length (q : Int)).toList
    rw [ins_writes h q, ins_lastW h]
end Go.Proofs.YtobfanodjdkkoaaDoor
