/- Slices of operations that are read as lists; rows of a call's own that hold operations; the program's sort of such a row. No condition but each theorem's own. -/
import Derived.Test.YtobfanodjdkkoaaDoorSortH
import Derived.Test.YtobfanodjdkkoaaDoorSl
set_option linter.unusedVariables false
set_option linter.unusedSimpArgs false
namespace Go.Proofs.YtobfanodjdkkoaaDoor
open Go.RowKit

/-- A slice value reads as this list of operations; nil and empty ones alike. -/
def Opl (w : World) (v : Value) (xs : List Opn) : Prop :=
  ∃ A c, v = .slice A xs.length c ∧ (xs.length ≤ c ∧ xs.length ≤ 9223372036854775807) ∧ (0 < xs.length → ∃ ad, A = some ad ∧ ∀ j, j < xs.length → w.cell? (ad.add (j * 3)) = some (.bool (xs.getD j opZero).wr) ∧ w.cell? ⟨(ad.add (j * 3)).block, (ad.add (j * 3)).off + 1, none⟩ = some (.int .i64 (xs.getD j opZero).key) ∧ w.cell? ⟨(ad.add (j * 3)).block, (ad.add (j * 3)).off + 2, none⟩ = some (.int .i64 (xs.getD j opZero).val))
theorem Opl.ch {S : Nat → Prop} {w w' : World} {v : Value} {xs : List Opn} (h : Opl w v xs) (hc : Ch S w w') (hn : ∀ b, v.ownBlock = some b → xs ≠ [] → ¬ S b) : Opl w' v xs := by
  obtain ⟨A, c, rfl, hl, hx⟩ := h
  refine ⟨A, c, rfl, hl, fun h0 => ?_⟩
  obtain ⟨ad, rfl, hcell⟩ := hx h0
  refine ⟨ad, rfl, fun j hj => ?_⟩
  have keep : ∀ p v, p.block = ad.block → w.cell? p = some v → w'.cell? p = some v := fun p v hp h1 => by
    have hb := World.block_lt_of_cell? w _ h1
    rw [hp] at hb
    exact (World.cell?_of_block (by rw [hp]; exact hc.block _ hb (hn _ rfl (List.length_pos_iff.1 h0)))).trans h1
  exact ⟨keep _ _ (add_block _ _) (hcell j hj).1, keep _ _ (add_block _ _) (hcell j hj).2.1, keep _ _ (add_block _ _) (hcell j hj).2.2⟩
theorem Opl.keep {w w' : World} {v : Value} {xs : List Opn} (h : Opl w v xs) (hc : Ch nob w w') : Opl w' v xs := h.ch hc (fun _ _ _ h => h)
theorem Opl.shape {w : World} {v : Value} {xs : List Opn} (h : Opl w v xs) : ∃ A c, v = .slice A xs.length c := by
  obtain ⟨A, c, rfl, _, _⟩ := h; exact ⟨A, c, rfl⟩
theorem Opl.at {w : World} {A : Option Addr} {c n : Nat} {xs : List Opn} (h : Opl w (.slice A n c) xs) : n = xs.length ∧ (xs.length ≤ c ∧ xs.length ≤ 9223372036854775807) ∧ ∀ j, j < xs.length → ∃ ad, A = some ad ∧ w.cell? (ad.add (j * 3)) = some (.bool (xs.getD j opZero).wr) ∧ w.cell? ⟨(ad.add (j * 3)).block, (ad.add (j * 3)).off + 1, none⟩ = some (.int .i64 (xs.getD j opZero).key) ∧ w.cell? ⟨(ad.add (j * 3)).block, (ad.add (j * 3)).off + 2, none⟩ = some (.int .i64 (xs.getD j opZero).val) := by
  obtain ⟨A', c', hv, hl, hx⟩ := h
  simp only [Value.slice.injEq] at hv
  obtain ⟨rfl, rfl, rfl⟩ := hv
  refine ⟨rfl, hl, fun j hj => ?_⟩
  obtain ⟨ad, h1, h2⟩ := hx (by omega)
  exact ⟨ad, h1, h2 j hj⟩
theorem Opl.nil (w : World) (A : Option Addr) (c : Nat) : Opl w (.slice A 0 c) [] := ⟨A, c, rfl, by simp, fun h => absurd h (by simp)⟩
theorem add_next (ad : Addr) (j d : Nat) (hd : 0 < d) : (⟨(ad.add j).block, (ad.add j).off + d, none⟩ : Addr) = ad.add (j + d) := by
  unfold Addr.add
  rw [if_neg (show ¬ j + d = 0 by omega)]
  by_cases h : j = 0
  · subst h
    simp
  · rw [if_neg h]
    simp [Nat.add_assoc]
/-- The cells of some operations. -/
def flatO : List Opn → List Value
  | [] => []
  | p :: l => .bool p.wr :: .int .i64 p.key :: .int .i64 p.val :: flatO l
theorem flatO_len (l : List Opn) : (flatO l).length = l.length * 3 := by
  induction l with
  | nil => rfl
  | cons p l ih => simp only [flatO, List.length_cons, ih]; omega
theorem flatO_append (a b : List Opn) : flatO (a ++ b) = flatO a ++ flatO b := by
  induction a with
  | nil => rfl
  | cons p l ih => simp only [List.cons_append, flatO, ih]
theorem flatO_at (l : List Opn) : ∀ j, j < l.length → (flatO l)[j * 3]? = some (.bool (l.getD j opZero).wr) ∧ (flatO l)[j * 3 + 1]? = some (.int .i64 (l.getD j opZero).key) ∧ (flatO l)[j * 3 + 2]? = some (.int .i64 (l.getD j opZero).val) := by
  induction l with
  | nil => intro j h; simp at h
  | cons p l ih =>
    intro j h
    cases j with
    | zero => exact ⟨rfl, rfl, rfl⟩
    | succ j =>
      have := ih j (by simpa using h)
      rw [show (j + 1) * 3 = j * 3 + 3 from by omega]
      simpa [flatO] using this
/-- A row of the call's own as a list of operations. -/
def OwnO (w : World) (base e : Nat) (v : Value) (xs : List Opn) : Prop := w.ownsRow base e 3 v xs.length (flatO xs)
theorem OwnO.opl {w : World} {base e : Nat} {v : Value} {xs : List Opn} (h : OwnO w base e v xs) : Opl w v xs := by
  have h0 := h.2
  rcases h0 with ⟨hv, hn⟩ | ⟨g, cap, cur, hv, hb, hg, hle2, hcap, hsz, htake⟩
  · have : xs = [] := List.eq_nil_of_length_eq_zero hn
    subst this
    exact ⟨none, 0, hv, by simp, fun h => absurd h (by simp)⟩
  · refine ⟨_, _, hv, ⟨hle2, by unfold maxLen at hcap; omega⟩, fun h0 => ⟨_, rfl, fun j hj => ?_⟩⟩
    have hc := World.ownsRow.cells h (g := g) (by rw [hv]; rfl)
    have hf := flatO_at xs j hj
    rw [add_next _ _ _ (by omega), add_next _ _ _ (by omega)]
    exact ⟨hc _ _ hf.1, hc _ _ hf.2.1, hc _ _ hf.2.2⟩
theorem OwnO.nil (w : World) (base e : Nat) : OwnO w base e (.slice none 0 0) [] := World.ownsRow_nil w base e 3
theorem OwnO.grown {w w' : World} {base e : Nat} {v : Value} {xs : List Opn} (h : OwnO w base e v xs) {row : Option Nat} (hg : w.grownBy w' row) (hne : ∀ b, v.ownBlock = some b → row ≠ some b) : OwnO w' base e v xs :=
  World.ownsRow.kept h hg (by
    cases hv : v.ownBlock with
    | none => exact .inl rfl
    | some b => exact .inr fun he => hne b hv he.symm)
theorem OwnO.keep {w w' : World} {base e : Nat} {v : Value} {xs : List Opn} (h : OwnO w base e v xs) (hc : Ch nob w w') : OwnO w' base e v xs := h.grown (grown_of_ch hc none) (fun _ _ h => by cases h)
theorem OwnO.ge {w : World} {base e : Nat} {v : Value} {xs : List Opn} (h : OwnO w base e v xs) (b : Nat) (hb : v.ownBlock = some b) : base ≤ b ∧ b < w.heap.size := World.ownsRow.lt h b hb
theorem OwnO.off {w w' : World} {base e g : Nat} {v : Value} {xs : List Opn} (h : OwnO w base e v xs) (hc : Ch (· = g) w w') (hg : ∀ b, v.ownBlock = some b → b ≠ g) : OwnO w' base e v xs := h.grown (grown_of_ch1 hc) (fun b hb he => hg b hb (by cases he; rfl))
theorem OwnO.alloc {w : World} {base e : Nat} {v : Value} {xs : List Opn} (h : OwnO w base e v xs) (o : Obj) : OwnO (w.alloc o) base e v xs := World.ownsRow.alloc h o
theorem OwnO.len {w : World} {base e : Nat} {v : Value} {xs : List Opn} (h : OwnO w base e v xs) : xs.length ≤ 9223372036854775807 := by
  obtain ⟨_, _, _, h, _⟩ := h.opl; exact h.2
theorem elem_op : ElemOK Tryd.prog 22 33 (.agg #[.bool false, .int .i64 0, .int .i64 0]) 3 24 := ⟨by kernel_rfl, by kernel_rfl⟩
/-- 'append(s, o)'. -/
theorem wpList_append_op {P : Program} {w : World} {ops : Array Oper} {rest : List Oper} {o : Oper} {a : Act} {Q : Exit → Act → World → Prop} (hgd : o.guard = none) (s x : Operand) (t e : TypeId)
    (ho : o.op = .call { callee := .builtin .append, args := #[s, x], argTypes := #[t, t] }) (he : ElemOK P t e (.agg #[.bool false, .int .i64 0, .int .i64 0]) 3 24)
    (base : Nat) (v : Value) (xs : List Opn) (hs : a.eval s = v) (hown : OwnO w base e v xs)
    (g : Nat) (y : Opn) (T : TypeId) (hx : a.eval x = .slice (some ⟨g, 0, none⟩) 1 1) (hb : Blk w g #[.bool y.wr, .int .i64 y.key, .int .i64 y.val] T) (hn : xs.length ≤ 1000000) (hbase : base ≤ w.heap.size)
    (h : ∀ v' w', OwnO w' base e v' (xs ++ [y]) → w.grownBy w' v.ownBlock → wpList P ops Q rest (a.put o.dst v') w') : wpList P ops Q (o :: rest) a w :=
  wpList_append1 hgd s x t e ho (.agg #[.bool false, .int .i64 0, .int .i64 0]) 3 24 he rfl (by decide) (by decide) base v xs.length _ hs hown g _ T hx hb rfl (by intro u hu; simp at hu; rcases hu with rfl | rfl | rfl <;> rfl) (by omega) hbase
    (fun v' w' h1 h2 => h v' w' (by
      unfold OwnO
      rw [flatO_append, List.length_append]
      exact h1) h2)

/-! ### A row in order -/
theorem ops_blk {w : World} {base e : Nat} {v : Value} {xs : List Opn} (h : OwnO w base e v xs) (h0 : xs ≠ []) : ∃ g cap N R, v = .slice (some ⟨g, 0, none⟩) xs.length cap ∧ OpBlk w g N (fun i => xs.getD i opZero) R xs.length e ∧ base ≤ g ∧ xs.length ≤ cap ∧ cap ≤ maxLen ∧ N = cap * 3 := by
  have h1 := h.2
  rcases h1 with ⟨hv, hn⟩ | ⟨g, cap, cur, hv, hg, hb, hle2, hcap, hsz, htake⟩
  · exact absurd (List.eq_nil_of_length_eq_zero hn) h0
  · refine ⟨g, cap, cur.size, fun c => cur[c]?.getD (.bool false), hv, ⟨?_, by omega⟩, hg, hle2, hcap, hsz⟩
    unfold Blk
    rw [hb]
    refine congrArg some ?_
    have : cur = arrOf cur.size (opF (fun i => xs.getD i opZero) (fun c => cur[c]?.getD (.bool false)) xs.length) := by
      apply Array.ext
      · simp [arrOf]
      · intro c h2 h3
        simp only [arrOf, Array.getElem_ofFn]
        unfold opF
        by_cases hc : c < 3 * xs.length
        · rw [if_pos hc]
          have e1 : (flatO xs)[c]? = some cur[c] := by
            rw [← htake, List.getElem?_take_of_lt (by omega), Array.getElem?_toList, Array.getElem?_eq_getElem h2]
          have hf := flatO_at xs (c / 3) (by omega)
          have h4 : c % 3 = 0 ∨ c % 3 = 1 ∨ c % 3 = 2 := by omega
          rcases h4 with h4 | h4 | h4
          · rw [show c / 3 * 3 = c from by omega, e1] at hf
            rw [h4]
            exact Option.some.inj hf.1
          · rw [show c / 3 * 3 + 1 = c from by omega, e1] at hf
            rw [h4]
            exact Option.some.inj hf.2.1
          · rw [show c / 3 * 3 + 2 = c from by omega, e1] at hf
            rw [h4]
            exact Option.some.inj hf.2.2
        · rw [if_neg hc]
          show _ = (cur[c]?).getD (.bool false)
          rw [Array.getElem?_eq_getElem h2]
          rfl
    rw [← this]
theorem blk_ops {w : World} {base e g cap N n : Nat} {D : Nat → Opn} {R : Nat → Value} (h : OpBlk w g N D R n e) (hg : base ≤ g) (hle : n ≤ cap) (hcap : cap ≤ maxLen) (hN : N = cap * 3) : OwnO w base e (.slice (some ⟨g, 0, none⟩) n cap) ((List.range n).map D) := by
  obtain ⟨hb, hN2⟩ := h
  unfold OwnO
  refine ⟨by rw [flatO_len], .inr ⟨g, cap, _, by simp, hg, hb, by simpa using hle, hcap, by rw [arrOf_size]; exact hN, ?_⟩⟩
  apply List.ext_getElem?
  intro c
  rw [List.length_map, List.length_range]
  by_cases hc : c < n * 3
  · rw [List.getElem?_take_of_lt hc, Array.getElem?_toList, arrOf_get _ _ _ (by omega)]
    unfold opF
    rw [if_pos (by omega)]
    have hf := flatO_at ((List.range n).map D) (c / 3) (by simp; omega)
    rw [List.getD_eq_getElem?_getD, List.getElem?_map, List.getElem?_range (by omega)] at hf
    have h4 : c % 3 = 0 ∨ c % 3 = 1 ∨ c % 3 = 2 := by omega
    rcases h4 with h4 | h4 | h4
    · rw [show c / 3 * 3 = c from by omega] at hf
      rw [h4, hf.1]; rfl
    · rw [show c / 3 * 3 + 1 = c from by omega] at hf
      rw [h4, hf.2.1]; rfl
    · rw [show c / 3 * 3 + 2 = c from by omega] at hf
      rw [h4, hf.2.2]; rfl
  · rw [List.getElem?_eq_none (by simp; omega), List.getElem?_eq_none (by rw [flatO_len]; simp; omega)]
/-- In order, by key. -/
def InOrder (l : List Opn) : Prop := l.Pairwise fun x y => x.key ≤ y.key
theorem inOrder_of {D : Nat → Opn} {n : Nat} (h : SortedOn D 0 n) : InOrder ((List.range n).map D) := by
  unfold InOrder
  rw [List.pairwise_map]
  refine List.Pairwise.imp_of_mem (R := (· < ·)) (fun {i j} hi hj hij => ?_) List.pairwise_lt_range
  exact h i j (Nat.zero_le _) hij (List.mem_range.1 hj)
/-- A shuffle holds the same ones. -/
theorem shuf_mem {D E : Nat → Opn} {n : Nat} (h : Shuf 0 n D E) (x : Opn) : x ∈ (List.range n).map E ↔ x ∈ (List.range n).map D := by
  simp only [List.mem_map, List.mem_range]
  constructor
  · rintro ⟨k, hk, rfl⟩
    obtain ⟨j, _, hj, e⟩ := h.mem k (Nat.zero_le _) hk
    exact ⟨j, hj, e.symm⟩
  · rintro ⟨k, hk, rfl⟩
    obtain ⟨j, _, hj, e⟩ := h.symm.mem k (Nat.zero_le _) hk
    exact ⟨j, hj, e.symm⟩
theorem list_is (xs : List Opn) : (List.range xs.length).map (fun i => xs.getD i opZero) = xs := by
  apply List.ext_getElem?
  intro i
  rw [List.getElem?_map]
  by_cases h : i < xs.length
  · rw [List.getElem?_range h, List.getElem?_eq_getElem h, Option.map_some, List.getD_eq_getElem?_getD, List.getElem?_eq_getElem h]
    rfl
  · rw [List.getElem?_eq_none (by simp; omega), List.getElem?_eq_none (by omega)]
    rfl
/-- ys is xs in order by key, where xs has no key twice. -/
def Sorts (xs ys : List Opn) : Prop := ys.length = xs.length ∧ InOrder ys ∧ (∀ x, x ∈ ys ↔ x ∈ xs) ∧ ((xs.map Opn.key).Nodup → (ys.map Opn.key).Nodup)
theorem Sorts.nil : Sorts [] [] := ⟨rfl, List.Pairwise.nil, fun _ => Iff.rfl, fun h => h⟩
theorem sorts_of {xs : List Opn} {E : Nat → Opn} (h : Shuf 0 xs.length (fun i => xs.getD i opZero) E) (hs : SortedOn E 0 xs.length) : Sorts xs ((List.range xs.length).map E) := by
  refine ⟨by simp, inOrder_of hs, fun x => ?_, fun hd => ?_⟩
  · rw [shuf_mem h]
    rw [list_is]
  · have hinj := h.inj (fun i j _ hi _ hj he => by
      have hd2 := hd
      rw [List.Nodup, List.pairwise_map, List.pairwise_iff_getElem] at hd2
      simp only [List.getD_eq_getElem?_getD, List.getElem?_eq_getElem hi, List.getElem?_eq_getElem hj, Option.getD_some] at he
      by_cases e : i = j
      · exact e
      · rcases Nat.lt_or_gt_of_ne e with g | g
        · exact absurd he (hd2 i j hi hj g)
        · exact absurd he.symm (hd2 j i hj hi g))
    rw [List.Nodup, List.pairwise_map, List.pairwise_map]
    refine List.Pairwise.imp_of_mem (R := (· < ·)) (fun {i j} hi hj hij he => ?_) List.pairwise_lt_range
    have := hinj i j (Nat.zero_le _) (List.mem_range.1 hi) (Nat.zero_le _) (List.mem_range.1 hj) he
    omega
/-- Two lists in strict order that hold the same are one. -/
theorem strict_eq : ∀ {l m : List Opn}, l.Pairwise (fun x y => x.key < y.key) → m.Pairwise (fun x y => x.key < y.key) → (∀ x, x ∈ l ↔ x ∈ m) → l = m
  | [], [], _, _, _ => rfl
  | [], y :: m, _, _, h => absurd ((h y).2 (List.mem_cons_self ..)) (by simp)
  | x :: l, [], _, _, h => absurd ((h x).1 (List.mem_cons_self ..)) (by simp)
  | x :: l, y :: m, h1, h2, h => by
    rw [List.pairwise_cons] at h1 h2
    have e : x = y := by
      rcases List.mem_cons.1 ((h x).1 (List.mem_cons_self ..)) with h3 | h3
      · exact h3
      · rcases List.mem_cons.1 ((h y).2 (List.mem_cons_self ..)) with h4 | h4
        · exact h4.symm
        · have := h2.1 x h3
          have := h1.1 y h4
          omega
    subst e
    refine congrArg _ (strict_eq h1.2 h2.2 fun z => ?_)
    constructor
    · intro hz
      rcases List.mem_cons.1 ((h z).1 (List.mem_cons_of_mem _ hz)) with h3 | h3
      · have := h1.1 z hz
        rw [h3] at this
        omega
      · exact h3
    · intro hz
      rcases List.mem_cons.1 ((h z).2 (List.mem_cons_of_mem _ hz)) with h3 | h3
      · have := h2.1 z hz
        rw [h3] at this
        omega
      · exact h3
theorem Sorts.eq {xs ys zs : List Opn} (h : Sorts xs ys) (hd : (xs.map Opn.key).Nodup) (hz : zs.Pairwise fun x y => x.key < y.key) (hm : ∀ x, x ∈ zs ↔ x ∈ xs) : ys = zs := by
  obtain ⟨_, h1, h2, h3⟩ := h
  refine strict_eq ?_ hz (fun x => by rw [h2, hm])
  have h4 := h3 hd
  rw [List.Nodup, List.pairwise_map] at h4
  unfold InOrder at h1
  exact (h1.and h4).imp fun h => by omega

/-! ### The program's sort of a row -/
theorem insertion_none (A : Option Addr) (c : Nat) (cmp : Value) (w : World) : Calls Tryd.prog 36 #[.slice A 0 c, .int .i64 0, .int .i64 0, cmp] w fun e w' => e = .returned (.tuple #[]) ∧ w = w' := by
  go_enter Tryd.func36, Tryd.ntmps36
  go_wp2_with fail
  go_loopw [8] (fun x wr => x = .int .i64 1 ∧ w = wr) (fun x _ => (intOf x).toNat)
  case atStart => exact ⟨rfl, rfl⟩
  case round =>
    obtain ⟨rfl, rfl⟩ := hrel
    go_wp2_with fail
    go_end0
    exact ⟨rfl, rfl⟩
theorem stable_none (A : Option Addr) (c : Nat) (cmp : Value) (w : World) : Calls Tryd.prog 32 #[.slice A 0 c, .int .i64 0, cmp] w fun e w' => e = .returned (.tuple #[]) ∧ w = w' := by
  go_enter Tryd.func32, Tryd.ntmps32
  go_wp2_with fail
  go_loopw [7, 8] (fun x y wr => x = .int .i64 0 ∧ y = .int .i64 20 ∧ w = wr) (fun x _ _ => (intOf x).toNat)
  case atStart => exact ⟨rfl, rfl, rfl⟩
  case round =>
    obtain ⟨rfl, rfl, rfl⟩ := hrel
    go_wp2_with fail
    refine (insertion_none A c cmp _).mono ?_
    rintro e w2 ⟨rfl, rfl⟩
    go_wp2_with fail
    go_loopw [6] (fun x wr => x = .int .i64 20 ∧ w = wr) (fun x _ => (intOf x).toNat)
    case atStart => exact ⟨rfl, rfl⟩
    case round =>
      obtain ⟨rfl, rfl⟩ := hrel
      go_wp2_with fail
      go_end0
      exact ⟨rfl, rfl⟩
theorem sort_call (w : World) (base : Nat) (v : Value) (xs : List Opn) (h : OwnO w base 33 v xs) (hn : xs.length ≤ 1000000) (hb : base ≤ w.heap.size) :
    Calls Tryd.prog 25 #[v, byKeyV] w fun e w' => ∃ ys, e = .returned (.tuple #[]) ∧ OwnO w' base 33 v ys ∧ Sorts xs ys ∧ Ch (fun b => v.ownBlock = some b) w w' := by
  by_cases h0 : xs = []
  · subst h0
    obtain ⟨A, c, hv⟩ := h.opl.shape
    rw [List.length_nil] at hv
    have HO := Lib.hid h
    subst hv
    clear h
    go_enter Tryd.func25, Tryd.ntmps25
    go_wp2_with fail
    refine (stable_none A c _ _).mono ?_
    rintro e w2 ⟨rfl, rfl⟩
    go_wp2_with fail
    go_end0
    exact ⟨[], rfl, HO.out, Sorts.nil, Ch.refl _ _⟩
  · obtain ⟨g, cap, N, R, rfl, hblk, hg, hle, hcap, hN⟩ := ops_blk h h0
    obtain ⟨n, hn2⟩ : ∃ n, xs.length = n := ⟨_, rfl⟩
    have HN := Lib.hid hn2
    rw [hn2] at hblk hle hn ⊢
    have HB := Lib.hid hblk
    have HF := Lib.hid (And.intro hg (And.intro hle (And.intro hcap hN)))
    clear h h0 hblk hn2 hg hle hcap hN
    go_enter Tryd.func25, Tryd.ntmps25
    go_wp2_with fail
    refine (stable_sort g N _ R n cap _ HB.out hn).mono ?_
    rintro e w2 ⟨E, rfl, hb2, hs2, ho2, hc2⟩
    have HE := Lib.hid (show Sorts xs ((List.range n).map E) from by
      rw [← HN.out] at hs2 ho2 ⊢
      exact sorts_of hs2 ho2)
    have HO := Lib.hid (blk_ops hb2 HF.out.1 HF.out.2.1 HF.out.2.2.1 HF.out.2.2.2)
    have hc3 : Ch (fun b => (Value.slice (some ⟨g, 0, none⟩) n cap).ownBlock = some b) w w2 := hc2.mono (fun i _ hi => by rw [show i = g from hi]; rfl)
    clear hb2 hs2 ho2 hc2
    go_wp2_with fail
    go_end0
    exact ⟨_, rfl, HO.out, HE.out, hc3⟩
/-- What the sort of a row leaves. -/
def RetOps (w : World) (base : Nat) (v : Value) (xs : List Opn) (e : Ending) (w' : World) : Prop := ∃ ys, e = .returned v ∧ OwnO w' base 33 v ys ∧ Sorts xs ys ∧ Ch (fun b => v.ownBlock = some b) w w'
theorem by_key_row (w : World) (base : Nat) (v : Value) (xs : List Opn) (h : OwnO w base 33 v xs) (hn : xs.length ≤ 1000000) (hb : base ≤ w.heap.size) :
    Calls Tryd.prog 21 #[v] w (RetOps w base v xs) := by
  obtain ⟨A, c, hv⟩ := h.opl.shape
  have HO := Lib.hid h
  have HN := Lib.hid hn
  have HB := Lib.hid hb
  obtain ⟨n, hn2⟩ : ∃ n, xs.length = n := ⟨_, rfl⟩
  rw [hn2] at hv
  subst hv
  clear h hn hn2 hb
  go_enter Tryd.func21, Tryd.ntmps21
  go_wp2_with fail
  refine (sort_call _ base _ xs HO.out HN.out HB.out).mono ?_
  rintro e w2 ⟨ys, rfl, ho2, hs2, hc2⟩
  have HO2 := Lib.hid ho2
  have HS := Lib.hid hs2
  clear ho2 hs2
  go_wp2_with fail
  go_ret
  exact ⟨ys, rfl, HO2.out, HS.out, hc2⟩
end Go.Proofs.YtobfanodjdkkoaaDoor
