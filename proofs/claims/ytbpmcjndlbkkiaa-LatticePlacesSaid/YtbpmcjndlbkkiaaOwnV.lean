/- Rows of a call's own that hold any values of one cell each. No condition. -/
import Derived.Test.YtbpmcjndlbkkiaaSl
set_option linter.unusedVariables false
set_option linter.unusedSimpArgs false
namespace Go.Proofs.Ytbpmcjndlbkkiaa
open Go.RowKit

/-- A row of the call's own: these values. -/
def OwnV (w : World) (base e : Nat) (v : Value) (xs : List Value) : Prop := w.ownsRow base e 1 v xs.length xs
theorem OwnV.nil (w : World) (base e : Nat) : OwnV w base e (.slice none 0 0) [] := World.ownsRow_nil w base e 1
theorem OwnV.grown {w w' : World} {base e : Nat} {v : Value} {xs : List Value} (h : OwnV w base e v xs) {row : Option Nat} (hg : w.grownBy w' row) (hne : ∀ b, v.ownBlock = some b → row ≠ some b) : OwnV w' base e v xs :=
  World.ownsRow.kept h hg (by
    cases hv : v.ownBlock with
    | none => exact .inl rfl
    | some b => exact .inr fun he => hne b hv he.symm)
theorem OwnV.keep {w w' : World} {base e : Nat} {v : Value} {xs : List Value} (h : OwnV w base e v xs) (hc : Ch nob w w') : OwnV w' base e v xs := h.grown (grown_of_ch hc none) (fun _ _ h => by cases h)
theorem OwnV.other {w w' : World} {g : Nat} {base e : Nat} {v : Value} {xs : List Value} (h : OwnV w base e v xs) (hc : Ch (· = g) w w') (hn : v.ownBlock ≠ some g) : OwnV w' base e v xs := h.grown (grown_of_ch1 hc) (fun b hb he => hn (by rw [hb, he]))
theorem OwnV.ge {w : World} {base e : Nat} {v : Value} {xs : List Value} (h : OwnV w base e v xs) (b : Nat) (hb : v.ownBlock = some b) : base ≤ b ∧ b < w.heap.size := World.ownsRow.lt h b hb
theorem OwnV.ne {w : World} {base e : Nat} {v : Value} {xs : List Value} (h : OwnV w base e v xs) {g : Nat} {cs : Array Value} {T : TypeId} (hb : Blk w g cs T) (ht : e ≠ T) : v.ownBlock ≠ some g := by
  intro hv
  rcases h.2 with ⟨h1, _⟩ | ⟨g', cap, cur, h1, _, hg, _⟩
  · rw [h1] at hv; cases hv
  · rw [h1] at hv
    have : g' = g := by simpa [Value.ownBlock] using hv
    subst this
    have h2 : w.heap[g']? = some (.cells cs T (0, 0)) := hb
    rw [hg] at h2
    simp at h2
    exact ht h2.2
theorem OwnV.alloc {w : World} {base e : Nat} {v : Value} {xs : List Value} (h : OwnV w base e v xs) (o : Obj) : OwnV (w.alloc o) base e v xs := World.ownsRow.alloc h o
theorem OwnV.made (w : World) (base e : Nat) (hb : base ≤ w.heap.size) : OwnV (w.alloc (.cells #[] e)) base e (.slice (some ⟨w.heap.size, 0, none⟩) 0 0) [] :=
  World.ownsRow_made w #[] 0 hb (by unfold maxLen; omega) (by simp)
/-- What it reads as: nil, or a block whose cells hold them. -/
theorem OwnV.read {w : World} {base e : Nat} {v : Value} {xs : List Value} (h : OwnV w base e v xs) : (v = .slice none 0 0 ∧ xs = []) ∨ ∃ g c, v = .slice (some ⟨g, 0, none⟩) xs.length c ∧ base ≤ g ∧ g < w.heap.size ∧ xs.length ≤ c ∧ ∀ (j : Nat) x, xs[j]? = some x → w.cell? ⟨g, 0 + j, none⟩ = some x := by
  have h0 := h.2
  rcases h0 with ⟨hv, hn⟩ | ⟨g, cap, cur, hv, hb, hg, hle, hcap, hsz, htake⟩
  · exact .inl ⟨hv, List.eq_nil_of_length_eq_zero hn⟩
  · refine .inr ⟨g, cap, hv, hb, ?_, hle, fun j x hx => ?_⟩
    · exact (Array.getElem?_eq_some_iff.1 hg).1
    · have := World.ownsRow.cells h (g := g) (by rw [hv]; rfl) j x hx
      rw [show (⟨g, 0, none⟩ : Addr).add j = ⟨g, 0 + j, none⟩ from by unfold Addr.add; split <;> simp_all] at this
      exact this
theorem ownV_snoc {w : World} {base e : Nat} {v : Value} {xs : List Value} {z : Value} {n : Nat} (h : w.ownsRow base e 1 v (n + 1) (xs ++ (#[z] : Array Value).toList)) (hn : n = xs.length) : OwnV w base e v (xs ++ [z]) := by
  subst hn
  unfold OwnV
  simpa using h
/-- 'append(s, x)' to a row of the call's own. -/
theorem wpList_append_val {P : Program} {w : World} {ops : Array Oper} {rest : List Oper} {o : Oper} {a : Act} {Q : Exit → Act → World → Prop} (hgd : o.guard = none) (s x : Operand) (t e : TypeId)
    (ho : o.op = .call { callee := .builtin .append, args := #[s, x], argTypes := #[t, t] }) (z0 : Value) (bytes : Nat) (he : ElemOK P t e z0 1 bytes) (hz0 : z0.cells.size = 1) (hby : bytes ≤ 1000)
    (base : Nat) (v : Value) (xs : List Value) (hs : a.eval s = v) (hown : OwnV w base e v xs)
    (g : Nat) (z : Value) (T : TypeId) (hx : a.eval x = .slice (some ⟨g, 0, none⟩) 1 1) (hb : Blk w g #[z] T) (hz : z.oneCell' = true) (hn : xs.length ≤ 100000000000) (hbase : base ≤ w.heap.size)
    (h : ∀ v' w', OwnV w' base e v' (xs ++ [z]) → w.grownBy w' v.ownBlock → wpList P ops Q rest (a.put o.dst v') w') : wpList P ops Q (o :: rest) a w :=
  wpList_append1 hgd s x t e ho z0 1 bytes he hz0 (by decide) hby base v xs.length _ hs hown g #[z] T hx hb rfl (by intro u hu; simp at hu; subst hu; exact hz) hn hbase
    fun v' w' h1 h2 => h v' w' (ownV_snoc h1 rfl) h2
theorem elem_string : ElemOK Try.prog 50 9 (.string ⟨#[]⟩) 1 16 := ⟨by kernel_rfl, by kernel_rfl⟩
end Go.Proofs.Ytbpmcjndlbkkiaa
