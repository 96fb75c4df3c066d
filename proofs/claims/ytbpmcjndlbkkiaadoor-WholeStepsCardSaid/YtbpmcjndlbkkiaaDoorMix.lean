/- Regions that draw their order: what only reads may be taken first, whoever may come ahead of it; each call comes up alone, and changes nothing old: one walk in the order of the text. No condition. -/
import Derived.Test.YtbpmcjndlbkkiaaDoorStages
import Derived.Deep.RegionHeld3
set_option linter.unusedVariables false
set_option linter.unusedSimpArgs false
namespace Go.Proofs.YtbpmcjndlbkkiaaDoor
open Go.RowKit

/-- Operations that come to a value, or to a panic. -/
def valueB : Op → Bool
  | .move _ => true
  | .assign _ => true
  | .pick _ _ _ => true
  | .load _ _ => true
  | .binOp _ _ _ _ _ => true
  | .unOp _ _ _ => true
  | .slice _ _ _ _ _ => true
  | .fieldAddr _ _ _ => true
  | .field _ _ _ => true
  | .indexAddr _ _ _ => true
  | .index _ _ _ => true
  | .extract _ _ => true
  | .convert _ _ _ => true
  | .call c => match c.callee with
    | .builtin .len => true
    | _ => false
  | _ => false
section
variable {P : Program} {ops : Array Oper} {md : Region.Mode} {C : World → Prop}
theorem value_sem {w : World} {v : Value} (s : Sem Value) (h : Oper.quietUpon P C w v ((do pure (.value (← s)) : Sem Next).run P w)) : (do pure (.value (← s)) : Sem Next).run P w = .ok (.value v) w := by
  simp only [Sem.run_bind, Sem.run_pure] at h ⊢
  cases hr : s.run P w with
  | ok x w' =>
    rw [hr] at h
    simp only [Result.andThen_ok, Oper.quietUpon] at h ⊢
    rw [h.1, h.2]
  | halt x w' =>
    rw [hr] at h
    exact h.elim
theorem value_run {o : Oper} {a : Act} {w : World} {v : Value} (hv : valueB o.op = true) (h : o.quietAt P a C w v) : (execOp a.eval o).run P w = .ok (.value v) w := by
  unfold Oper.quietAt at h
  unfold execOp at h ⊢
  generalize o.op = op at *
  cases op with
  | move x => simp only [Sem.run_pure, Oper.quietUpon] at h ⊢; rw [h.2]
  | assign x => simp only [Sem.run_pure, Oper.quietUpon] at h ⊢; rw [h.2]
  | pick c x y =>
    simp only [Sem.run_bind, Sem.run_pure] at h ⊢
    cases hr : (asBool (a.eval c)).run P w with
    | ok b w' =>
      rw [hr] at h
      simp only [Result.andThen_ok] at h ⊢
      cases b <;> simp only [Bool.false_eq_true, if_false, if_true, Sem.run_pure, Result.andThen_ok, Oper.quietUpon] at h ⊢ <;> rw [h.1, h.2]
    | halt x w' => rw [hr] at h; exact h.elim
  | load t x => exact value_sem _ h
  | binOp op t x y u => exact value_sem _ h
  | unOp op t x => exact value_sem _ h
  | slice t x lo hi mx => exact value_sem _ h
  | fieldAddr s x f => exact value_sem _ h
  | field t x f => exact value_sem _ h
  | indexAddr t x i => exact value_sem _ h
  | index t x i => exact value_sem _ h
  | extract t i => exact value_sem _ h
  | convert s d x => exact value_sem _ h
  | call c =>
    unfold valueB at hv
    obtain ⟨callee, args, argTypes⟩ := c
    cases callee with
    | builtin b =>
      cases b <;> simp only [Bool.false_eq_true] at hv
      simp only [resolve, Sem.run_bind, Sem.run_pure, Result.andThen_ok, invoke, builtin] at h ⊢
      have := value_sem (P := P) (C := C) (w := w) (v := v) (Builtin.len_ argTypes o.type (args.map a.eval)) (by simpa only [Sem.run_bind, Sem.run_pure] using h)
      simpa only [Sem.run_bind, Sem.run_pure] using this
    | _ => simp at hv
  | _ => simp [valueB] at hv

def takeB (md : Region.Mode) (ops : Array Oper) : List Oper → Nat → Array Bool → Bool
  | [], _, _ => true
  | o :: l, k, listed => valueB o.op && (Region.ready md ops listed).contains k && Region.free md ops listed k && takeB md ops l (k + 1) (listed.setIfInBounds k true)
theorem take_seg {Q : Exit → Act → World → Prop} {Lq : Act → Prop} (hsel : Region.noSelect ops = true) (hQ : ∀ c (a : Act) d v w, Q (.panic c) (a.put d v) w → Q (.panic c) a w) {g : Nat} {w : World} (hw : C w) : ∀ (l : List Oper) (k : Nat) (listed : Array Bool) (a : Act), (∀ j, j < l.length → l[j]? = ops[k + j]?) →
    takeB md ops l k listed = true → wpQuiet P ops C Lq l a → (∀ a', Lq a' → wpAnyH P md ops Q C g (setUp listed k l.length) a' w) → wpAnyH P md ops Q C (l.length + g) listed a w := by
  intro l
  induction l with
  | nil =>
    intro k listed a _ _ h hL
    rw [List.length_nil, Nat.zero_add]
    exact hL a h
  | cons o l ih =>
    intro k listed a hl hB h hL
    have h0 : ops[k]? = some o := by simpa using (hl 0 (by simp)).symm
    simp only [takeB, Bool.and_eq_true] at hB
    obtain ⟨⟨⟨hv, hr⟩, hf⟩, hrest⟩ := hB
    have e : (o :: l).length + g = (l.length + g) + 1 := by rw [List.length_cons]; omega
    rw [e]
    have hl' : ∀ j, j < l.length → l[j]? = ops[k + 1 + j]? := fun j hj => by
      have := hl (j + 1) (by simp; omega)
      simpa [Nat.add_assoc, Nat.add_comm 1 j] using this
    have h' : if Region.wanted o (yielded ops a.tmps) then o.quiet P a C (wpQuiet P ops C Lq l) else wpQuiet P ops C Lq l (a.put o.dst undef) := h
    by_cases hwt : Region.wanted o (yielded ops a.tmps) = true
    · rw [if_pos hwt] at h'
      obtain ⟨v, hq, hk⟩ := h'
      exact wpAnyH_take h0 hsel hf hr (fun c a w => hQ c a _ _ w) (.inl ⟨hwt, fun w' hw' => value_run hv (hq w' hw')⟩) hw (ih (k + 1) _ _ hl' hrest hk hL)
    · rw [if_neg hwt] at h'
      exact wpAnyH_take h0 hsel hf hr (fun c a w => hQ c a _ _ w) (.inr ⟨by simpa using hwt, rfl⟩) hw (ih (k + 1) _ _ hl' hrest h' hL)
/-- The walk: what only reads, up to each operation that comes up alone; that one; and so on. -/
def wpMix (P : Program) (ops : List Oper) (C : World → Prop) (Q : Exit → Act → World → Prop) : List Nat → Nat → Act → World → Prop
  | [], k, a, w => wpQuiet P ops.toArray C (fun a' => Q .normal a' w) (ops.drop k) a
  | n :: ns, k, a, w => wpQuiet P ops.toArray C (fun a' => wpOp P ops.toArray Q n (fun a'' w'' => C w'' ∧ wpMix P ops C Q ns (n + 1) a'' w'') a' w) ((ops.drop k).take (n - k)) a
def mixB (md : Region.Mode) (ops : List Oper) : List Nat → Nat → Array Bool → Bool
  | [], k, listed => takeB md ops.toArray (ops.drop k) k listed && decide (Region.ready md ops.toArray (setUp listed k (ops.length - k)) = [])
  | n :: ns, k, listed => decide (k ≤ n) && decide (n < ops.length) && takeB md ops.toArray ((ops.drop k).take (n - k)) k listed && decide (Region.ready md ops.toArray (setUp listed k (n - k)) = [n]) && mixB md ops ns (n + 1) ((setUp listed k (n - k)).setIfInBounds n true)
theorem mix_any {l : List Oper} {Q : Exit → Act → World → Prop} (hsel : Region.noSelect l.toArray = true) (hQ : ∀ c (a : Act) d v w, Q (.panic c) (a.put d v) w → Q (.panic c) a w) : ∀ (ns : List Nat) (k : Nat) (listed : Array Bool) (a : Act) (w : World), k ≤ l.length → C w →
    mixB md l ns k listed = true → wpMix P l C Q ns k a w → wpAnyH P md l.toArray Q C (l.length - k) listed a w := by
  intro ns
  induction ns with
  | nil =>
    intro k listed a w hk hw hB h
    simp only [mixB, Bool.and_eq_true, decide_eq_true_eq] at hB
    have e : (l.drop k).length = l.length - k := by simp
    have := take_seg (g := 0) (md := md) hsel hQ hw (l.drop k) k listed a (fun j hj => by simp [List.getElem?_drop]) hB.1 h (fun a' ha' => by
      rw [e]
      exact ⟨hB.2, ha'⟩)
    rwa [e] at this
  | cons n ns ih =>
    intro k listed a w hk hw hB h
    simp only [mixB, Bool.and_eq_true, decide_eq_true_eq] at hB
    obtain ⟨⟨⟨⟨hkn, hn⟩, ht⟩, hr⟩, hrest⟩ := hB
    have hlen : ((l.drop k).take (n - k)).length = n - k := by simp; omega
    have := take_seg (g := (l.length - (n + 1)) + 1) (md := md) hsel hQ hw ((l.drop k).take (n - k)) k listed a (fun j hj => by
      have hj' : j < n - k := by rw [hlen] at hj; exact hj
      simp [hj', List.getElem?_drop]) ht h (fun a' ha' => by
      rw [hlen]
      refine wpAnyH_all hr (by simp) fun i hi => ?_
      obtain rfl : i = n := by simpa using hi
      refine wpOp_mono (fun a'' w'' h'' => ⟨h''.1, ?_⟩) ha'
      exact ih (i + 1) _ a'' w'' (by omega) h''.1 hrest h''.2)
    rw [hlen, show n - k + (l.length - (n + 1) + 1) = l.length - k by omega] at this
    exact this
end
theorem wp_region_mix {P : Program} {id : Nat} {Q : Exit → Act → World → Prop} {a : Act} {w : World} {l : List Oper} (ns : List Nat) (hm : P.follows .mixedOrders = true) (hB : (Region.noSelect l.toArray && mixB .any l ns 0 (Array.replicate l.length false)) = true)
    (h : wpMix P l (fun w' => ∃ u : Ext w.drew, w' = u.val) (NoPanic Q) ns 0 a w.drew) : (Code.region id l.toArray true).wp P Q a w := by
  simp only [Bool.and_eq_true] at hB
  refine wp_region_noPanic (wp_region_held (S := fun w' => ∃ u : Ext w.drew, w' = u.val) hm ?_)
  have := mix_any (P := P) (md := .any) (Q := NoPanic Q) hB.1 (fun c a d v w h => h.elim) ns 0 _ a w.drew (Nat.zero_le _) ⟨⟨_, Ch.refl _ _⟩, rfl⟩ hB.2 h
  simpa using this
end Go.Proofs.YtbpmcjndlbkkiaaDoor
