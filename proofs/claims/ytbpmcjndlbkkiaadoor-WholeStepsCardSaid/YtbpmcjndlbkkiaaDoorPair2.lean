/- Rows of a call's own that hold pairs of ints. No condition but each theorem's own. -/
import Derived.Test.YtbpmcjndlbkkiaaDoorPair
set_option linter.unusedVariables false
set_option linter.unusedSimpArgs false
namespace Go.Proofs.YtbpmcjndlbkkiaaDoor
open Go.RowKit

theorem add_snd (ad : Addr) (j : Nat) : (⟨(ad.add (j * 2)).block, (ad.add (j * 2)).off + 1, none⟩ : Addr) = ad.add (j * 2 + 1) := by
  unfold Addr.add
  rw [if_neg (show ¬ j * 2 + 1 = 0 by omega)]
  by_cases h : j = 0
  · subst h
    simp
  · rw [if_neg (show ¬ j * 2 = 0 by omega)]
    simp [Nat.add_assoc]
/-- The cells of some pairs. -/
def flat : List IPair → List Value
  | [] => []
  | p :: l => .int .i64 p.1 :: .int .i64 p.2 :: flat l
theorem flat_len (l : List IPair) : (flat l).length = l.length * 2 := by
  induction l with
  | nil => rfl
  | cons p l ih => simp only [flat, List.length_cons, ih]; omega
theorem flat_append (a b : List IPair) : flat (a ++ b) = flat a ++ flat b := by
  induction a with
  | nil => rfl
  | cons p l ih => simp only [List.cons_append, flat, ih]
theorem flat_at (l : List IPair) : ∀ j, j < l.length → (flat l)[j * 2]? = some (.int .i64 (l.getD j (0, 0)).1) ∧ (flat l)[j * 2 + 1]? = some (.int .i64 (l.getD j (0, 0)).2) := by
  induction l with
  | nil => intro j h; simp at h
  | cons p l ih =>
    intro j h
    cases j with
    | zero => exact ⟨rfl, rfl⟩
    | succ j =>
      have := ih j (by simpa using h)
      rw [show (j + 1) * 2 = j * 2 + 2 from by omega]
      simpa [flat] using this
/-- A row of the call's own as a list of pairs. -/
def OwnP (w : World) (base e : Nat) (v : Value) (xs : List IPair) : Prop := w.ownsRow base e 2 v xs.length (flat xs) ∧ xs.length ≤ 9223372036854775807
theorem OwnP.pairs {w : World} {base e : Nat} {v : Value} {xs : List IPair} (h : OwnP w base e v xs) : Pairs w v xs := by
  obtain ⟨h, hle⟩ := h
  have h0 := h.2
  rcases h0 with ⟨hv, hn⟩ | ⟨g, cap, cur, hv, hb, hg, hle2, hcap, hsz, htake⟩
  · have : xs = [] := List.eq_nil_of_length_eq_zero hn
    subst this
    exact ⟨none, 0, hv, by simp, fun h => absurd h (by simp)⟩
  · refine ⟨_, _, hv, hle, fun h0 => ⟨_, rfl, fun j hj => ?_⟩⟩
    have hc := World.ownsRow.cells h (g := g) (by rw [hv]; rfl)
    have hf := flat_at xs j hj
    rw [add_snd]
    exact ⟨hc _ _ hf.1, hc _ _ hf.2⟩
theorem OwnP.nil (w : World) (base e : Nat) : OwnP w base e (.slice none 0 0) [] := ⟨World.ownsRow_nil w base e 2, by simp⟩
theorem OwnP.grown {w w' : World} {base e : Nat} {v : Value} {xs : List IPair} (h : OwnP w base e v xs) {row : Option Nat} (hg : w.grownBy w' row) (hne : ∀ b, v.ownBlock = some b → row ≠ some b) : OwnP w' base e v xs :=
  ⟨World.ownsRow.kept h.1 hg (by
    cases hv : v.ownBlock with
    | none => exact .inl rfl
    | some b => exact .inr fun he => hne b hv he.symm), h.2⟩
theorem OwnP.keep {w w' : World} {base e : Nat} {v : Value} {xs : List IPair} (h : OwnP w base e v xs) (hc : Ch nob w w') : OwnP w' base e v xs := h.grown (grown_of_ch hc none) (fun _ _ h => by cases h)
theorem OwnP.ge {w : World} {base e : Nat} {v : Value} {xs : List IPair} (h : OwnP w base e v xs) (b : Nat) (hb : v.ownBlock = some b) : base ≤ b ∧ b < w.heap.size := World.ownsRow.lt h.1 b hb
theorem OwnP.alloc {w : World} {base e : Nat} {v : Value} {xs : List IPair} (h : OwnP w base e v xs) (o : Obj) : OwnP (w.alloc o) base e v xs := ⟨World.ownsRow.alloc h.1 o, h.2⟩
theorem OwnP.made (w : World) (base e : Nat) (hb : base ≤ w.heap.size) : OwnP (w.alloc (.cells #[] e)) base e (.slice (some ⟨w.heap.size, 0, none⟩) 0 0) [] :=
  ⟨World.ownsRow_made w #[] 0 hb (by unfold maxLen; omega) (by simp), by simp⟩
theorem elem_pair : ElemOK Tryd.prog 22 42 (.agg #[.int .i64 0, .int .i64 0]) 2 16 := ⟨by kernel_rfl, by kernel_rfl⟩
/-- 'append(s, Pair{a, b})'. -/
theorem wpList_append_pair {P : Program} {w : World} {ops : Array Oper} {rest : List Oper} {o : Oper} {a : Act} {Q : Exit → Act → World → Prop} (hgd : o.guard = none) (s x : Operand) (t e : TypeId)
    (ho : o.op = .call { callee := .builtin .append, args := #[s, x], argTypes := #[t, t] }) (he : ElemOK P t e (.agg #[.int .i64 0, .int .i64 0]) 2 16)
    (base : Nat) (v : Value) (xs : List IPair) (hs : a.eval s = v) (hown : OwnP w base e v xs)
    (g : Nat) (m n : Int) (T : TypeId) (hx : a.eval x = .slice (some ⟨g, 0, none⟩) 1 1) (hb : Blk w g #[.int .i64 m, .int .i64 n] T) (hn : xs.length ≤ 1000000) (hbase : base ≤ w.heap.size)
    (h : ∀ v' w', OwnP w' base e v' (xs ++ [(m, n)]) → w.grownBy w' v.ownBlock → wpList P ops Q rest (a.put o.dst v') w') : wpList P ops Q (o :: rest) a w :=
  wpList_append1 hgd s x t e ho (.agg #[.int .i64 0, .int .i64 0]) 2 16 he rfl (by decide) (by decide) base v xs.length _ hs hown.1 g #[.int .i64 m, .int .i64 n] T hx hb rfl (by intro u hu; simp at hu; rcases hu with rfl | rfl <;> rfl) (by omega) hbase
    fun v' w' h1 h2 => h v' w' ⟨by rw [List.length_append, flat_append]; exact h1, by rw [List.length_append]; simp; omega⟩ h2
/-- 'append(s, l...)': pairs that are read behind a row of the call's own. -/
theorem wpList_append_pairs {P : Program} {w : World} {ops : Array Oper} {rest : List Oper} {o : Oper} {a : Act} {Q : Exit → Act → World → Prop} (hgd : o.guard = none) (s x : Operand) (t e : TypeId)
    (ho : o.op = .call { callee := .builtin .append, args := #[s, x], argTypes := #[t, t] }) (he : ElemOK P t e (.agg #[.int .i64 0, .int .i64 0]) 2 16)
    (base : Nat) (v : Value) (xs : List IPair) (hs : a.eval s = v) (hown : OwnP w base e v xs)
    (ad : Addr) (c : Nat) (ys : List IPair) (hx : a.eval x = .slice (some ad) ys.length c) (hsrc : Pairs w (.slice (some ad) ys.length c) ys) (hn : xs.length ≤ 1000000) (hm : ys.length ≤ 1000000) (hbase : base ≤ w.heap.size)
    (h : ∀ v' w', OwnP w' base e v' (xs ++ ys) → w.grownBy w' v.ownBlock → wpList P ops Q rest (a.put o.dst v') w') : wpList P ops Q (o :: rest) a w := by
  obtain ⟨i, hi, hz0, hz1, hz2⟩ := he.get
  have hcell : ∀ j u, (flat ys)[j]? = some u → w.cell? (ad.add j) = some u := by
    intro j u hu
    have hj : j < ys.length * 2 := by
      have := (List.getElem?_eq_some_iff.1 hu).1
      rwa [flat_len] at this
    obtain ⟨_, _, hcells⟩ := hsrc.at
    obtain ⟨ad', had, h1, h2⟩ := hcells (j / 2) (by omega)
    obtain rfl : ad = ad' := by simpa using had
    have hf := flat_at ys (j / 2) (by omega)
    rw [add_snd] at h2
    by_cases hp : j % 2 = 0
    · have : j / 2 * 2 = j := by omega
      rw [this] at h1 hf
      rw [h1, ← hf.1, hu]
    · have : j / 2 * 2 + 1 = j := by omega
      rw [this] at h2 hf
      rw [h2, ← hf.2, hu]
  refine wpList_append_own w hgd s x t ho base e i (.agg #[.int .i64 0, .int .i64 0]) 2 16 he.under hi hz0 hz1 hz2 rfl (by decide) v xs.length _ hs hown.1 ad ys.length c (flat ys) hx (flat_len _) hcell ?_ (by unfold maxLen; omega) (by omega) hbase (fun v' w' h1 h2 _ => h v' w' ⟨by rw [List.length_append, flat_append]; exact h1, by rw [List.length_append]; omega⟩ h2)
  intro u hu
  have : ∀ l : List IPair, ∀ u ∈ flat l, u.oneCell' = true := by
    intro l
    induction l with
    | nil => intro u hu; cases hu
    | cons p l ih =>
      intro u hu
      simp only [flat, List.mem_cons] at hu
      rcases hu with rfl | rfl | hu
      · rfl
      · rfl
      · exact ih u hu
  exact this ys u hu

/-- 'Put': with a pair, once. -/
def putP (l : List IPair) (a b : Int) : List IPair := if hasP l a b then l else l ++ [(a, b)]
theorem put_ref02 (v : Value) (l : List IPair) (a b : Int) (w : World) (hl : Pairs w v l) (hn : l.length ≤ 1000000) : Calls Tryd.prog 19 #[v, .int .i64 a, .int .i64 b] w fun e w' => ∃ u, e = .returned u ∧ Pairs w' u (putP l a b) ∧ Ch nob w w' := by
  obtain ⟨A, c, rfl⟩ := hl.shape
  have HL := Lib.hid hl
  clear hl
  go_enter Tryd.func19, Tryd.ntmps19
  go_wp2_with fail
  refine (has_ref02 _ l a b _ HL.out).mono ?_
  rintro e w1 ⟨rfl, rfl⟩
  cases hh : hasP l a b
  · have HP := Lib.hid (show putP l a b = l ++ [(a, b)] from by unfold putP; rw [hh]; rfl)
    clear hh
    have hm0 := OwnP.made w w.heap.size 42 (Nat.le_refl _)
    have hc0 := (Ch.refl nob w).alloc (.cells #[] 42)
    have hl0 := HL.out.keep hc0
    cases A with
    | none =>
      have hnil : l = [] := by
        cases l with
        | nil => rfl
        | cons p l =>
          obtain ⟨_, _, hcells⟩ := HL.out.at
          obtain ⟨ad, h, _⟩ := hcells 0 (by simp)
          cases h
      subst hnil
      have hof := Lib.hid (hm0.alloc (.cells #[.int .i64 a, .int .i64 b] 42))
      have hc3 := Lib.hid (hc0.alloc (.cells #[.int .i64 a, .int .i64 b] 42))
      have hnb := Lib.hid (Blk.new (w.alloc (.cells #[] 42)) #[.int .i64 a, .int .i64 b] 42)
      have hge := hc3.out.size
      have hsz : (w.alloc (.cells #[] 42)).heap.size = w.heap.size + 1 := by simp
      rw [hsz] at hnb
      clear hm0 hc0 hl0 hsz
      go_wp2_with (at_builtin; refine wpList_append_pair rfl (.tmp 14) (.tmp 18) 22 42 rfl elem_pair w.heap.size _ [] rfl hof.out (w.heap.size + 1) a b 42 rfl hnb.out (by simp) (by omega) ?_; intro v3 w3 hown3 hg3; have hc5 := hc3.out.grown_own hg3 (fun b hb => (hof.out.ge b hb).1); clear hg3)
      go_ret
      exact ⟨_, rfl, by rw [HP.out]; exact hown3.pairs, hc5⟩
    | some ad =>
      go_wp2_with (first
        | (at_builtin; refine wpList_append_pairs rfl (.tmp 12) (.tmp 13) 22 42 rfl elem_pair w.heap.size _ [] rfl hm0 ad c l rfl hl0 (by simp) hn (by simp) ?_; intro v2 w2 hown hg; rw [List.nil_append] at hown; have hc2 := hc0.grown_own hg (fun b hb => (hm0.ge b hb).1); have hof := Lib.hid (hown.alloc (.cells #[.int .i64 a, .int .i64 b] 42)); have hc3 := Lib.hid (hc2.alloc (.cells #[.int .i64 a, .int .i64 b] 42)); have hnb := Lib.hid (Blk.new w2 #[.int .i64 a, .int .i64 b] 42); have hge := hc3.out.size; clear hown hg hc2)
        | (at_builtin; refine wpList_append_pair rfl (.tmp 14) (.tmp 18) 22 42 rfl elem_pair w.heap.size _ l rfl hof.out _ a b 42 rfl hnb.out (by omega) (by omega) ?_; intro v3 w3 hown3 hg3; have hc5 := hc3.out.grown_own hg3 (fun b hb => (hof.out.ge b hb).1); clear hg3))
      go_ret
      exact ⟨_, rfl, by rw [HP.out]; exact hown3.pairs, hc5⟩
  · have HP := Lib.hid (show putP l a b = l from by unfold putP; rw [hh]; rfl)
    clear hh
    go_wp2_with fail
    go_ret
    exact ⟨_, rfl, by rw [HP.out]; exact HL.out, Ch.refl _ _⟩
end Go.Proofs.YtbpmcjndlbkkiaaDoor
