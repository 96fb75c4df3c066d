/- Plain law: walks of a relation, how long the shortest is, and the closure. No condition but each theorem's own. -/
import Derived.Test.YtbpmcjndlbkkiaaDoorRelPure
import Derived.Test.YtbpmcjndlbkkiaaDoorRel5
set_option linter.unusedVariables false
set_option linter.unusedSimpArgs false
namespace Go.Proofs.YtbpmcjndlbkkiaaDoor
open Go.RowKit

theorem nodup_len {α : Type} [DecidableEq α] : ∀ (a b : List α), a.Nodup → (∀ x ∈ a, x ∈ b) → a.length ≤ b.length
  | [], b, _, _ => by simp
  | x :: a, b, h, hs => by
    have hx : x ∈ b := hs x (by simp)
    rw [List.nodup_cons] at h
    have := nodup_len a (b.erase x) h.2 (fun y hy => by
      have hne : y ≠ x := fun e => h.1 (e ▸ hy)
      exact (List.mem_erase_of_ne hne).2 (hs y (by simp [hy])))
    rw [List.length_erase_of_mem hx] at this
    have hpos : 0 < b.length := List.length_pos_of_mem hx
    rw [List.length_cons]
    omega

/-- Does a stand to b? -/
abbrev E (r : Nat → Nat) (a b : Nat) : Prop := (r a).testBit b = true
/-- By n steps. -/
def Walk (r : Nat → Nat) : Nat → Nat → Nat → Prop
  | 0, a, b => a = b
  | n + 1, a, b => ∃ m, m < 64 ∧ Walk r n a m ∧ E r m b
theorem Walk.front {r : Nat → Nat} : ∀ {n a b}, Walk r (n + 1) a b → b < 64 → ∃ m, m < 64 ∧ E r a m ∧ Walk r n m b
  | 0, a, b, ⟨m, hm, h1, h2⟩, hb => by
    obtain rfl : a = m := h1
    exact ⟨b, hb, h2, rfl⟩
  | n + 1, a, b, ⟨m, hm, h1, h2⟩, hb => by
    obtain ⟨q, hq, h3, h4⟩ := Walk.front h1 hm
    exact ⟨q, hq, h3, m, hm, h4, h2⟩
theorem Walk.cons {r : Nat → Nat} : ∀ {n a m b}, a < 64 → m < 64 → E r a m → Walk r n m b → Walk r (n + 1) a b
  | 0, a, m, b, ha, hm, h1, h2 => by
    obtain rfl : m = b := h2
    exact ⟨a, ha, rfl, h1⟩
  | n + 1, a, m, b, ha, hm, h1, ⟨q, hq, h2, h3⟩ => ⟨q, hq, Walk.cons ha hm h1 h2, h3⟩
theorem Walk.append {r : Nat → Nat} : ∀ {n k a m b}, Walk r k a m → Walk r n m b → Walk r (k + n) a b
  | 0, k, a, m, b, h1, h2 => by obtain rfl : m = b := h2; exact h1
  | n + 1, k, a, m, b, h1, ⟨q, hq, h2, h3⟩ => ⟨q, hq, Walk.append h1 h2, h3⟩
theorem War.walk {r : Nat → Nat} : ∀ {k i j}, k ≤ 64 → i < 64 → j < 64 → War (E r) k i j → ∃ n, 1 ≤ n ∧ Walk r n i j
  | 0, i, j, _, hi, _, h => ⟨1, Nat.le_refl _, i, hi, rfl, h⟩
  | k + 1, i, j, hk, hi, hj, .inl h => War.walk (by omega) hi hj h
  | k + 1, i, j, hk, hi, hj, .inr ⟨h1, h2⟩ => by
    obtain ⟨n, hn, w1⟩ := War.walk (by omega) hi (by omega) h1
    obtain ⟨m, hm, w2⟩ := War.walk (by omega) (by omega) hj h2
    exact ⟨n + m, by omega, w1.append w2⟩
theorem Walk.war {r : Nat → Nat} : ∀ {n i j}, j < 64 → Walk r (n + 1) i j → War (E r) 64 i j
  | 0, i, j, hj, ⟨m, hm, h1, h2⟩ => by obtain rfl : i = m := h1; exact War.sub _ _ _ h2
  | n + 1, i, j, hj, ⟨m, hm, h1, h2⟩ => War.trans 64 i m j hm (Walk.war hm h1) (War.sub _ _ _ h2)
/-- From a to b one comes by n steps, and by no fewer. -/
def Least (r : Nat → Nat) (n a b : Nat) : Prop := 1 ≤ n ∧ Walk r n a b ∧ ∀ m, 1 ≤ m → m < n → ¬ Walk r m a b
theorem Least.unique {r : Nat → Nat} {n m a b : Nat} (h : Least r n a b) (k : Least r m a b) : n = m := by
  by_cases h1 : n < m
  · exact absurd h.2.1 (k.2.2 n h.1 h1)
  · by_cases h2 : m < n
    · exact absurd k.2.1 (h.2.2 m k.1 h2)
    · omega
theorem Least.of {r : Nat → Nat} {a b : Nat} : ∀ n, 1 ≤ n → Walk r n a b → ∃ m, m ≤ n ∧ Least r m a b := by
  intro n
  induction n using Nat.strongRecOn with
  | _ n ih =>
    intro h1 h2
    by_cases h : ∃ m, 1 ≤ m ∧ m < n ∧ Walk r m a b
    · obtain ⟨m, hm1, hm2, hm3⟩ := h
      obtain ⟨q, hq, hq2⟩ := ih m hm2 hm1 hm3
      exact ⟨q, by omega, hq2⟩
    · exact ⟨n, Nat.le_refl _, h1, h2, fun m hm1 hm2 hm3 => h ⟨m, hm1, hm2, hm3⟩⟩
theorem Least.next {r : Nat → Nat} {n a b : Nat} (h : Least r (n + 2) a b) (ha : a < 64) (hb : b < 64) : ∃ m, m < 64 ∧ E r a m ∧ Least r (n + 1) m b := by
  obtain ⟨m, hm, h1, h2⟩ := h.2.1.front hb
  refine ⟨m, hm, h1, by omega, h2, fun q hq1 hq2 hq3 => ?_⟩
  exact h.2.2 (q + 1) (by omega) (by omega) (Walk.cons ha hm h1 hq3)
theorem Least.row {r : Nat → Nat} {b : Nat} (hb : b < 64) : ∀ n a, a < 64 → Least r (n + 1) a b → ∃ l : List Nat, l.length = n + 1 ∧ l.Nodup ∧ ∀ v ∈ l, v < 64 ∧ ∃ t, t ≤ n + 1 ∧ Least r t v b
  | 0, a, ha, h => ⟨[a], rfl, by simp, fun v hv => by simp at hv; subst hv; exact ⟨ha, 1, Nat.le_refl _, h⟩⟩
  | n + 1, a, ha, h => by
    obtain ⟨m, hm, h1, h2⟩ := h.next ha hb
    obtain ⟨l, hl, hd, hv⟩ := Least.row hb n m hm h2
    refine ⟨a :: l, by simp [hl], ?_, ?_⟩
    · rw [List.nodup_cons]
      refine ⟨fun hmem => ?_, hd⟩
      obtain ⟨_, t, ht, hlt⟩ := hv a hmem
      have := h.unique hlt
      omega
    · intro v hv2
      rcases List.mem_cons.1 hv2 with rfl | hv2
      · exact ⟨ha, n + 2, Nat.le_refl _, h⟩
      · obtain ⟨h3, t, ht, h4⟩ := hv v hv2
        exact ⟨h3, t, by omega, h4⟩
theorem Least.le {r : Nat → Nat} {n a b : Nat} (h : Least r n a b) (ha : a < 64) (hb : b < 64) : n ≤ 64 := by
  obtain ⟨k, rfl⟩ : ∃ k, n = k + 1 := ⟨n - 1, by have := h.1; omega⟩
  obtain ⟨l, hl, hd, hv⟩ := Least.row hb k a ha h
  have := nodup_len l (List.range 64) hd (fun x hx => List.mem_range.2 (hv x hx).1)
  rw [hl, List.length_range] at this
  exact this
theorem Walk.least {r : Nat → Nat} {n a b : Nat} (hn : 1 ≤ n) (h : Walk r n a b) (ha : a < 64) (hb : b < 64) : ∃ m, m ≤ 64 ∧ Least r m a b := by
  obtain ⟨m, _, hm⟩ := Least.of n hn h
  exact ⟨m, hm.le ha hb, hm⟩

/-! ### The program's steps -/
theorem mem_listS (s : Nat) (n : Int) : n ∈ listS s ↔ hasS s n = true := by
  unfold listS hasS inS
  rw [List.mem_map]
  constructor
  · rintro ⟨i, hi, rfl⟩
    have := (Bits.mem_list s i).1 hi
    rw [decide_eq_true (by omega)]; simpa using this.2
  · intro h
    rw [Bool.and_eq_true] at h
    have h1 := of_decide_eq_true h.1
    exact ⟨n.toNat, (Bits.mem_list s _).2 ⟨by omega, h.2⟩, by omega⟩
theorem mem_listS_nat (s k : Nat) (hk : k < 64) : (k : Int) ∈ listS s ↔ s.testBit k = true := by rw [mem_listS, hasS_nat s k hk]
theorem of_mem_listS {s : Nat} {n : Int} (h : n ∈ listS s) : ∃ k : Nat, n = (k : Int) ∧ k < 64 ∧ s.testBit k = true := by
  rw [mem_listS] at h
  unfold hasS inS at h
  rw [Bool.and_eq_true] at h
  have h1 := of_decide_eq_true h.1
  exact ⟨n.toNat, by omega, by omega, h.2⟩
theorem orTo_bit (t : Nat → Nat) (l : List Int) (j : Nat) : (orTo t l l.length).testBit j = l.any fun k => (t k.toNat).testBit j := by
  unfold orTo
  rw [List.take_length]
  have : ∀ (l : List Int) (a : Nat), (l.foldl (fun acc k => acc ||| t k.toNat) a).testBit j = (a.testBit j || l.any fun k => (t k.toNat).testBit j) := by
    intro l
    induction l with
    | nil => intro a; simp
    | cons x l ih => intro a; rw [List.foldl_cons, ih, Nat.testBit_or, List.any_cons, Bool.or_assoc]
  rw [this, Nat.zero_testBit, Bool.false_or]
theorem orTo_list_bit (t : Nat → Nat) (s j : Nat) : (orTo t (listS s) (listS s).length).testBit j = true ↔ ∃ m, m < 64 ∧ s.testBit m = true ∧ E t m j := by
  rw [orTo_bit, List.any_eq_true]
  constructor
  · rintro ⟨k, hk, h⟩
    obtain ⟨m, rfl, hm, hb⟩ := of_mem_listS hk
    exact ⟨m, hm, hb, by simpa using h⟩
  · rintro ⟨m, hm, hb, h⟩
    exact ⟨m, (mem_listS_nat s m hm).2 hb, by simpa using h⟩
theorem ofS_one (a : Nat) (ha : a < 64) (j : Nat) (hj : j < 64) : (ofS [(a : Int)]).testBit j = decide (a = j) := by
  show (withS 0 (a : Int)).testBit j = _
  unfold withS inS
  rw [if_pos (decide_eq_true (by omega)), Bits.testBit_put]
  simp [eq_comm]
theorem stepsR_walk (r : Nat → Nat) (a : Nat) (ha : a < 64) : ∀ n j, j < 64 → ((stepsR r a n).testBit j = true ↔ Walk r n a j)
  | 0, j, hj => by
    show (ofS [(a : Int)]).testBit j = true ↔ a = j
    rw [ofS_one a ha j hj, decide_eq_true_iff]
  | n + 1, j, hj => by
    show (orTo r (listS (stepsR r a n)) (listS (stepsR r a n)).length).testBit j = true ↔ _
    rw [orTo_list_bit]
    constructor
    · rintro ⟨m, hm, h1, h2⟩
      exact ⟨m, hm, (stepsR_walk r a ha n m hm).1 h1, h2⟩
    · rintro ⟨m, hm, h1, h2⟩
      exact ⟨m, hm, (stepsR_walk r a ha n m hm).2 h1, h2⟩
theorem shortTo_least (r : Nat → Nat) (a b : Nat) (ha : a < 64) (hb : b < 64) (d : Nat) (hd : Least r d a b) : ∀ k n, n < d → d ≤ n + k → shortTo r a b n k = d
  | 0, n, h1, h2 => by omega
  | k + 1, n, h1, h2 => by
    unfold shortTo
    rw [hasS_nat _ _ hb]
    by_cases h : (stepsR r a (n + 1)).testBit b = true
    · rw [if_pos h]
      have hw := (stepsR_walk r a ha (n + 1) b hb).1 h
      by_cases e : n + 1 = d
      · exact e
      · exact absurd hw (hd.2.2 (n + 1) (by omega) (by omega))
    · rw [if_neg h]
      have hne : n + 1 ≠ d := by
        rintro rfl
        exact h ((stepsR_walk r a ha (n + 1) b hb).2 hd.2.1)
      exact shortTo_least r a b ha hb d hd k (n + 1) (by omega) (by omega)
theorem shortR_least {r : Nat → Nat} {a b d : Nat} (hd : Least r d a b) (ha : a < 64) (hb : b < 64) : shortR r a b = d :=
  shortTo_least r a b ha hb d hd 65 0 (by have := hd.1; omega) (by have := hd.le ha hb; omega)
/-- What the closure has. -/
theorem closeR_walk (r : Nat → Nat) (i j : Nat) (hi : i < 64) (hj : j < 64) : E (closeR r 64) i j ↔ ∃ n, 1 ≤ n ∧ Walk r n i j := by
  rw [show E (closeR r 64) i j ↔ War (E r) 64 i j from closeR_war r 64 (Nat.le_refl _) i j hi hj]
  constructor
  · exact War.walk (Nat.le_refl _) hi hj
  · rintro ⟨n, hn, h⟩
    obtain ⟨k, rfl⟩ : ∃ k, n = k + 1 := ⟨n - 1, by omega⟩
    exact h.war hj
/-- Where one may come back there is a step that brings nearer. -/
theorem nearer (r : Nat → Nat) (a b : Nat) (ha : a < 64) (hb : b < 64) (hc : E (closeR r 64) a b) (hn : ¬ E r a b) : ∃ k, k < 64 ∧ E r a k ∧ E (closeR r 64) k b ∧ shortR r k b < shortR r a b := by
  obtain ⟨n, hn1, hw⟩ := (closeR_walk r a b ha hb).1 hc
  obtain ⟨d, hd, hl⟩ := hw.least hn1 ha hb
  have hd2 : 2 ≤ d := by
    have h1 := hl.1
    by_cases e : d = 1
    · subst e
      obtain ⟨m, hm, h2, h3⟩ := hl.2.1
      obtain rfl : a = m := h2
      exact absurd h3 hn
    · omega
  obtain ⟨q, rfl⟩ : ∃ q, d = q + 2 := ⟨d - 2, by omega⟩
  obtain ⟨m, hm, h1, h2⟩ := hl.next ha hb
  refine ⟨m, hm, h1, (closeR_walk r m b hm hb).2 ⟨_, h2.1, h2.2.1⟩, ?_⟩
  rw [shortR_least h2 hm hb, shortR_least hl ha hb]
  omega
end Go.Proofs.YtbpmcjndlbkkiaaDoor
