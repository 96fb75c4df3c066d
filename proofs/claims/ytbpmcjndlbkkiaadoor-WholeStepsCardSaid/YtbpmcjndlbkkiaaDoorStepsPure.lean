/- Plain law: a relation never comes back just if its numbers can be put in a row; put upon itself again and again it comes to its closure. No condition but each theorem's own. -/
import Derived.Test.YtbpmcjndlbkkiaaDoorLawSorts
import Derived.Test.YtbpmcjndlbkkiaaDoorLawChains
set_option linter.unusedVariables false
set_option linter.unusedSimpArgs false
namespace Go.Proofs.YtbpmcjndlbkkiaaDoor
open Go.RowKit

/-! ### Numbers in a row -/
theorem find_some_of {p : Int → Bool} {l : List Int} {n : Int} (h : l.find? p = some n) : n ∈ l ∧ p n = true := by
  exact ⟨List.mem_of_find?_eq_some h, List.find?_some h⟩
theorem mem_without (s k j : Nat) (hk : k < 64) (hj : j < 64) : (withoutS s (k : Int)).testBit j = true ↔ s.testBit j = true ∧ j ≠ k := by
  unfold withoutS inS
  rw [if_pos (decide_eq_true (by omega))]
  show (Bits.del s k).testBit j = true ↔ _
  rw [Bits.testBit_del, Bool.and_eq_true]
  simp
  intro _
  omega
/-- What a row is, where there is one. -/
structure RowOf (r : Nat → Nat) (s : Nat) (row : List Int) : Prop where
  mem : ∀ j : Nat, j < 64 → ((j : Int) ∈ row ↔ s.testBit j = true)
  nat : ∀ x ∈ row, inS x = true
  once : row.Nodup
  order : ∀ a b : Nat, a < 64 → b < 64 → s.testBit a = true → s.testBit b = true → E r a b → ∃ i j, i < j ∧ j < row.length ∧ row.getD i 0 = (a : Int) ∧ row.getD j 0 = (b : Int)
theorem sortTo_row (r : Nat → Nat) : ∀ k s row, s < 18446744073709551616 → (listS s).length = k → sortTo (turnTo r 64) k s = some row → RowOf r s row
  | 0, s, row, hs, hl, h => by
    have hr : row = [] := by simpa [sortTo] using h.symm
    subst hr
    have hn : listS s = [] := List.eq_nil_of_length_eq_zero hl
    have hb : ∀ j : Nat, j < 64 → ¬ s.testBit j = true := fun j hj hb => by
      have := (mem_listS_nat s j hj).2 hb
      rw [hn] at this; cases this
    exact ⟨fun j hj => ⟨fun h => (nomatch h), fun h => absurd h (hb j hj)⟩, fun x h => (nomatch h), List.nodup_nil, fun a b ha _ h _ _ => absurd h (hb a ha)⟩
  | k + 1, s, row, hs, hl, h => by
    have h' : (match (listS s).find? (freeN (turnTo r 64) s) with | none => none | some n => (sortTo (turnTo r 64) k (withoutS s n)).map (n :: ·)) = some row := h
    cases hf : (listS s).find? (freeN (turnTo r 64) s) with
    | none => rw [hf] at h'; cases h'
    | some n =>
      rw [hf] at h'
      obtain ⟨hm, hfree⟩ := find_some_of hf
      obtain ⟨m, rfl, hm64, hb⟩ := of_mem_listS hm
      cases hrest : sortTo (turnTo r 64) k (withoutS s (m : Int)) with
      | none =>
        have h2 : (sortTo (turnTo r 64) k (withoutS s (m : Int))).map ((m : Int) :: ·) = some row := h'
        rw [hrest] at h2; cases h2
      | some rest =>
        have h2 : (sortTo (turnTo r 64) k (withoutS s (m : Int))).map ((m : Int) :: ·) = some row := h'
        rw [hrest] at h2
        have hrow : row = (m : Int) :: rest := by simpa using h2.symm
        subst hrow
        have hlen := listS_without s m hm64 hb
        have ih := sortTo_row r k (withoutS s (m : Int)) rest (withoutS_lt _ _ hs) (by omega) hrest
        have hno : ∀ a, a < 64 → s.testBit a = true → ¬ E r a m := fun a ha hsa he => by
          have h1 : (turnTo r 64 m).testBit a = true := (turned_bit r m a hm64 ha).2 he
          have h2 : turnTo r 64 m &&& s = 0 := by
            have : freeN (turnTo r 64) s (m : Int) = true := hfree
            unfold freeN at this
            simpa using this
          have h3 : (turnTo r 64 m &&& s).testBit a = true := by rw [Nat.testBit_and, h1, hsa]; rfl
          rw [h2, Nat.zero_testBit] at h3; cases h3
        refine ⟨fun j hj => ?_, fun x hx => ?_, ?_, fun a b ha hb' hsa hsb he => ?_⟩
        · rw [List.mem_cons, ih.mem j hj, mem_without s m j hm64 hj]
          constructor
          · rintro (h | ⟨h, _⟩)
            · obtain rfl : j = m := by omega
              exact hb
            · exact h
          · intro h
            by_cases e : j = m
            · left; omega
            · exact .inr ⟨h, e⟩
        · rcases List.mem_cons.1 hx with rfl | hx
          · unfold inS; exact decide_eq_true (by omega)
          · exact ih.nat x hx
        · rw [List.nodup_cons]
          refine ⟨fun hmem => ?_, ih.once⟩
          have := (mem_without s m m hm64 hm64).1 ((ih.mem m hm64).1 hmem)
          exact this.2 rfl
        · have hbm : b ≠ m := by rintro rfl; exact hno a ha hsa he
          by_cases e : a = m
          · subst e
            have hbr : (b : Int) ∈ rest := (ih.mem b hb').2 ((mem_without s a b ha hb').2 ⟨hsb, hbm⟩)
            obtain ⟨j, hj, he2⟩ := List.getElem_of_mem hbr
            refine ⟨0, j + 1, by omega, by simp [hj], rfl, ?_⟩
            rw [List.getD_cons_succ, List.getD_eq_getElem?_getD, List.getElem?_eq_getElem hj]
            exact he2
          · obtain ⟨i, j, h1, h2, h3, h4⟩ := ih.order a b ha hb' ((mem_without s m a hm64 ha).2 ⟨hsa, e⟩) ((mem_without s m b hm64 hb').2 ⟨hsb, hbm⟩) he
            exact ⟨i + 1, j + 1, by omega, by simp [h2], by simpa using h3, by simpa using h4⟩
theorem RowOf.twice {r : Nat → Nat} {s : Nat} {row : List Int} (h : RowOf r s row) : twTo row row.length = false := by
  cases ht : twTo row row.length with
  | false => rfl
  | true =>
    obtain ⟨i, j, _, hij, hj, _, he⟩ := (twTo_iff row row.length (Nat.le_refl _)).1 ht
    rw [List.getD_eq_getElem?_getD, List.getD_eq_getElem?_getD, List.getElem?_eq_getElem hj, List.getElem?_eq_getElem (by omega)] at he
    have e : row[j] = row[i] := he
    have := (List.getElem_inj h.once).1 e
    omega
def fullS : Nat := 18446744073709551615
theorem full_bit (j : Nat) (hj : j < 64) : fullS.testBit j = true := by
  rw [show fullS = 2 ^ 64 - 1 from rfl, Nat.testBit_two_pow_sub_one, decide_eq_true hj]
theorem below_full : belowS 64 = fullS := rfl
/-- A row of all numbers, as a relation, has all of it. -/
theorem row_within {r : Nat → Nat} {row : List Int} (okr : RelOK r) (h : RowOf r fullS row) : withinR r (chainTo row row.length) = true := by
  rw [withinR_iff r _ okr]
  intro i j hi hj he
  obtain ⟨a, b, h1, h2, h3, h4⟩ := h.order i j hi hj (full_bit i hi) (full_bit j hj) he
  exact (chain_bit row i j hi hj).2 ⟨a, b, h1, h2, h3, h4⟩
theorem row_acyclic {r : Nat → Nat} {row : List Int} (okr : RelOK r) (h : RowOf r fullS row) : acyR r = true := by
  have hw := (withinR_iff r _ okr).1 (row_within okr h)
  have ht := h.twice
  have hac : acyR (chainTo row row.length) = true := by rw [chain_acyclic, ht]; rfl
  rw [acyR_iff] at hac ⊢
  intro i hi he
  refine hac i hi ?_
  rw [show E (closeR r 64) i i ↔ War (E r) 64 i i from closeR_war _ 64 (Nat.le_refl _) i i hi hi] at he
  rw [show E (closeR (chainTo row row.length) 64) i i ↔ War (E (chainTo row row.length)) 64 i i from closeR_war _ 64 (Nat.le_refl _) i i hi hi]
  have key : ∀ k i j, k ≤ 64 → i < 64 → j < 64 → War (E r) k i j → War (E (chainTo row row.length)) k i j := by
    intro k
    induction k with
    | zero => intro i j _ hi hj h; exact hw i j hi hj h
    | succ k ih =>
      intro i j hk hi hj h
      rcases h with h | ⟨h1, h2⟩
      · exact .inl (ih i j (by omega) hi hj h)
      · exact .inr ⟨ih i k (by omega) hi (by omega) h1, ih k j (by omega) (by omega) hj h2⟩
  exact key 64 i i (Nat.le_refl _) hi hi he
/-- How many stand to one, by any steps. -/
def before (r : Nat → Nat) (n : Nat) : Nat := ((List.range 64).filter fun m => (closeR r 64 m).testBit n).length
theorem filter_lt {p q : Nat → Bool} : ∀ (l : List Nat) (x : Nat), x ∈ l → (∀ y ∈ l, p y = true → q y = true) → q x = true → p x = false → (l.filter p).length < (l.filter q).length
  | [], x, h, _, _, _ => by cases h
  | y :: l, x, h, hpq, hq, hp => by
    have hle : ∀ (l : List Nat), (∀ y ∈ l, p y = true → q y = true) → (l.filter p).length ≤ (l.filter q).length := by
      intro l
      induction l with
      | nil => intro _; simp
      | cons z l ih =>
        intro h
        have := ih (fun y hy => h y (by simp [hy]))
        rw [List.filter_cons, List.filter_cons]
        cases hz : p z with
        | false => cases q z <;> simp <;> omega
        | true => rw [h z (by simp) hz]; simp; omega
    rw [List.filter_cons, List.filter_cons]
    rcases List.mem_cons.1 h with rfl | h
    · rw [hq, hp]
      have := hle l (fun y hy => hpq y (by simp [hy]))
      simp; omega
    · have ih := filter_lt l x h (fun y hy => hpq y (by simp [hy])) hq hp
      cases hz : p y with
      | false => cases q y <;> simp <;> omega
      | true => rw [hpq y (by simp) hz]; simp; omega
theorem close_trans (r : Nat → Nat) (a b c : Nat) (ha : a < 64) (hb : b < 64) (hc : c < 64) (h1 : E (closeR r 64) a b) (h2 : E (closeR r 64) b c) : E (closeR r 64) a c := by
  rw [closeR_walk r a b ha hb] at h1
  rw [closeR_walk r b c hb hc] at h2
  rw [closeR_walk r a c ha hc]
  obtain ⟨n, hn, w1⟩ := h1
  obtain ⟨m, hm, w2⟩ := h2
  exact ⟨n + m, by omega, w1.append w2⟩
theorem close_step (r : Nat → Nat) (a b : Nat) (ha : a < 64) (hb : b < 64) (h : E r a b) : E (closeR r 64) a b := by
  rw [closeR_walk r a b ha hb]
  exact ⟨1, Nat.le_refl _, a, ha, rfl, h⟩
/-- Where none comes back one of some is free. -/
theorem some_free (r : Nat → Nat) (hac : acyR r = true) (s : Nat) (hs : s < 18446744073709551616) (h0 : 0 < (listS s).length) : ∃ n ∈ listS s, freeN (turnTo r 64) s n = true := by
  rw [acyR_iff] at hac
  by_cases hno : ∃ n ∈ listS s, freeN (turnTo r 64) s n = true
  · exact hno
  · exfalso
    have hpred : ∀ n, n < 64 → s.testBit n = true → ∃ a, a < 64 ∧ s.testBit a = true ∧ E r a n := fun n hn hb => by
      have hf : ¬ freeN (turnTo r 64) s (n : Int) = true := fun h => hno ⟨_, (mem_listS_nat s n hn).2 hb, h⟩
      unfold freeN at hf
      by_cases hall : ∃ a, a < 64 ∧ s.testBit a = true ∧ E r a n
      · exact hall
      · exfalso
        apply hf
        rw [beq_iff_eq]
        show turnTo r 64 n &&& s = 0
        refine Bits.ext64 (Nat.lt_of_le_of_lt Nat.and_le_right hs) (by decide) fun j hj => ?_
        rw [Nat.zero_testBit, Nat.testBit_and]
        cases h1 : s.testBit j with
        | false => simp
        | true =>
          cases h2 : (turnTo r 64 n).testBit j with
          | false => rfl
          | true => exact absurd ⟨j, hj, h1, (turned_bit r n j hn hj).1 h2⟩ hall
    have key : ∀ k n, n < 64 → s.testBit n = true → before r n = k → False := by
      intro k
      induction k using Nat.strongRecOn with
      | _ k ih =>
        intro n hn hb hk
        obtain ⟨a, ha, hsa, he⟩ := hpred n hn hb
        have hlt : before r a < before r n := by
          unfold before
          refine filter_lt _ a (List.mem_range.2 ha) (fun y hy h => ?_) ?_ ?_
          · exact close_trans r y a n (List.mem_range.1 hy) ha hn h (close_step r a n ha hn he)
          · exact close_step r a n ha hn he
          · cases hc : (closeR r 64 a).testBit a with
            | false => rfl
            | true => exact absurd hc (hac a ha)
        exact ih (before r a) (by omega) a ha hsa rfl
    obtain ⟨x, hx⟩ := List.exists_mem_of_length_pos h0
    obtain ⟨n, rfl, hn, hb⟩ := of_mem_listS hx
    exact key _ n hn hb rfl
theorem sortTo_some (r : Nat → Nat) (hac : acyR r = true) : ∀ k s, s < 18446744073709551616 → (listS s).length = k → ∃ row, sortTo (turnTo r 64) k s = some row
  | 0, _, _, _ => ⟨[], rfl⟩
  | k + 1, s, hs, hl => by
    obtain ⟨n, hn, hf⟩ := some_free r hac s hs (by omega)
    cases hfind : (listS s).find? (freeN (turnTo r 64) s) with
    | none => exact absurd hf (by have := List.find?_eq_none.1 hfind n hn; exact this)
    | some m =>
      obtain ⟨hm, _⟩ := find_some_of hfind
      obtain ⟨j, rfl, hj, hb⟩ := of_mem_listS hm
      have hlen := listS_without s j hj hb
      obtain ⟨rest, hrest⟩ := sortTo_some r hac k (withoutS s (j : Int)) (withoutS_lt _ _ hs) (by omega)
      refine ⟨(j : Int) :: rest, ?_⟩
      show (match (listS s).find? (freeN (turnTo r 64) s) with | none => none | some n => (sortTo (turnTo r 64) k (withoutS s n)).map (n :: ·)) = _
      rw [hfind]
      show (sortTo (turnTo r 64) k (withoutS s (j : Int))).map _ = _
      rw [hrest]; rfl
/-- There is a row of all just if none comes back. -/
theorem sort_full (r : Nat → Nat) (okr : RelOK r) : (∃ row, sortS (turnTo r 64) fullS = some row ∧ acyR r = true ∧ withinR r (chainTo row row.length) = true) ∨ (sortS (turnTo r 64) fullS = none ∧ acyR r = false) := by
  cases h : sortS (turnTo r 64) fullS with
  | none =>
    right
    refine ⟨rfl, ?_⟩
    cases hac : acyR r with
    | false => rfl
    | true =>
      obtain ⟨row, hr⟩ := sortTo_some r hac _ fullS (by decide) rfl
      rw [show sortS (turnTo r 64) fullS = sortTo (turnTo r 64) (listS fullS).length fullS from rfl, hr] at h
      cases h
  | some row =>
    left
    have hrow := sortTo_row r _ fullS row (by decide) rfl h
    exact ⟨row, rfl, row_acyclic okr hrow, row_within okr hrow⟩

/-! ### Upon itself again and again -/
def twiceR (r : Nat → Nat) : Nat → (Nat → Nat)
  | 0 => r
  | k + 1 => unionR (twiceR r k) (thenR (twiceR r k) (twiceR r k)) 64
theorem twiceR_ok {r : Nat → Nat} (h : RelOK r) : ∀ k, RelOK (twiceR r k)
  | 0 => h
  | k + 1 => fun i => by
    show unionR _ _ 64 i < _
    unfold unionR
    split
    · exact or_ok (twiceR_ok h k i) (thenR_ok _ (twiceR_ok h k) i)
    · exact twiceR_ok h k i
theorem Walk.split {r : Nat → Nat} : ∀ {m n a b}, a < 64 → b < 64 → Walk r (n + m) a b → ∃ c, c < 64 ∧ Walk r n a c ∧ Walk r m c b
  | 0, n, a, b, ha, hb, h => ⟨b, hb, h, rfl⟩
  | m + 1, n, a, b, ha, hb, ⟨c, hc, h1, h2⟩ => by
    obtain ⟨d, hd, h3, h4⟩ := Walk.split ha hc h1
    exact ⟨d, hd, h3, c, hc, h4, h2⟩
theorem twiceR_walk (r : Nat → Nat) : ∀ k i j, i < 64 → j < 64 → (E (twiceR r k) i j ↔ ∃ n, 1 ≤ n ∧ n ≤ 2 ^ k ∧ Walk r n i j)
  | 0, i, j, hi, hj => by
    constructor
    · intro h; exact ⟨1, Nat.le_refl _, Nat.le_refl _, i, hi, rfl, h⟩
    · rintro ⟨n, h1, h2, h3⟩
      obtain rfl : n = 1 := by simp at h2; omega
      obtain ⟨m, hm, e, h⟩ := h3
      obtain rfl : i = m := e
      exact h
  | k + 1, i, j, hi, hj => by
    show E (unionR (twiceR r k) (thenR (twiceR r k) (twiceR r k)) 64) i j ↔ _
    rw [unionR_bit _ _ _ _ hi, thenR_bit, twiceR_walk r k i j hi hj]
    have hp : 2 ^ (k + 1) = 2 ^ k + 2 ^ k := by rw [Nat.pow_succ]; omega
    constructor
    · rintro (⟨n, h1, h2, h3⟩ | ⟨m, hm, h1, h2⟩)
      · exact ⟨n, h1, by omega, h3⟩
      · obtain ⟨a, ha1, ha2, ha3⟩ := (twiceR_walk r k i m hi hm).1 h1
        obtain ⟨b, hb1, hb2, hb3⟩ := (twiceR_walk r k m j hm hj).1 h2
        exact ⟨a + b, by omega, by omega, ha3.append hb3⟩
    · rintro ⟨n, h1, h2, h3⟩
      by_cases hn : n ≤ 2 ^ k
      · exact .inl ⟨n, h1, hn, h3⟩
      · obtain ⟨d, rfl⟩ : ∃ d, n = 2 ^ k + d := ⟨n - 2 ^ k, by omega⟩
        obtain ⟨c, hc, w1, w2⟩ := Walk.split hi hj h3
        have hpos : 1 ≤ 2 ^ k := Nat.one_le_two_pow
        exact .inr ⟨c, hc, (twiceR_walk r k i c hi hc).2 ⟨_, hpos, Nat.le_refl _, w1⟩, (twiceR_walk r k c j hc hj).2 ⟨d, by omega, by omega, w2⟩⟩
theorem twice_close (r : Nat → Nat) (okr : RelOK r) : ∀ i, i < 64 → twiceR r 7 i = closeR r 64 i :=
  rel_ext (twiceR_ok okr 7) (closeR_ok okr 64) fun i j hi hj => by
    rw [twiceR_walk r 7 i j hi hj, closeR_walk r i j hi hj]
    constructor
    · rintro ⟨n, h1, _, h3⟩; exact ⟨n, h1, h3⟩
    · rintro ⟨n, h1, h3⟩
      obtain ⟨m, hm, hl⟩ := h3.least h1 hi hj
      exact ⟨m, hl.1, by omega, hl.2.1⟩
theorem close_closed (r : Nat → Nat) (okr : RelOK r) : withinR (thenR (closeR r 64) (closeR r 64)) (closeR r 64) = true := by
  rw [withinR_iff _ _ (thenR_ok _ (closeR_ok okr 64))]
  intro i j hi hj h
  obtain ⟨m, hm, h1, h2⟩ := (thenR_bit _ _ i j).1 h
  exact close_trans r i m j hi hm hj h1 h2
theorem turned_walk (r : Nat → Nat) : ∀ n i j, i < 64 → j < 64 → (Walk (turnTo r 64) n i j ↔ Walk r n j i)
  | 0, i, j, _, _ => by show i = j ↔ j = i; exact eq_comm
  | n + 1, i, j, hi, hj => by
    constructor
    · rintro ⟨m, hm, h1, h2⟩
      exact Walk.cons hj hm ((turned_bit r m j hm hj).1 h2) ((turned_walk r n i m hi hm).1 h1)
    · intro h
      obtain ⟨m, hm, h1, h2⟩ := h.front hi
      exact ⟨m, hm, (turned_walk r n i m hi hm).2 h2, (turned_bit r m j hm hj).2 h1⟩
theorem turned_close (r : Nat → Nat) (okr : RelOK r) : ∀ i, i < 64 → closeR (turnTo r 64) 64 i = turnTo (closeR r 64) 64 i :=
  rel_ext (closeR_ok (turnTo_ok r 64) 64) (turnTo_ok _ 64) fun i j hi hj => by
    rw [turned_bit _ _ _ hi hj, closeR_walk _ i j hi hj, closeR_walk _ j i hj hi]
    constructor
    · rintro ⟨n, h1, h2⟩; exact ⟨n, h1, (turned_walk r n i j hi hj).1 h2⟩
    · rintro ⟨n, h1, h2⟩; exact ⟨n, h1, (turned_walk r n i j hi hj).2 h2⟩
end Go.Proofs.YtbpmcjndlbkkiaaDoor
