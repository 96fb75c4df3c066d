/- What the program says of a history is what the document says: in plain words. No condition but each theorem's own. -/
import Derived.Test.YtobfanodjdkkoaaHistM
set_option linter.unusedVariables false
set_option linter.unusedSimpArgs false
namespace Go.Proofs.Ytobfanodjdkkoaa
open Go.RowKit Go.Maps

def b2n (b : Bool) : Nat := if b then 1 else 0
theorem tmN_pos {xs : List Opn} {v : Int} : ∀ {j q : Nat}, q < j → isW v (xs.getD q opZero) = true → 1 ≤ tmN xs v j
  | 0, q, h, _ => by omega
  | j + 1, q, h, hw => by
    unfold tmN
    by_cases e : q = j
    · subst e; rw [if_pos hw]; omega
    · have := tmN_pos (j := j) (show q < j by omega) hw; omega
theorem tmN_ex {xs : List Opn} {v : Int} : ∀ {j : Nat}, 1 ≤ tmN xs v j → ∃ q, q < j ∧ isW v (xs.getD q opZero) = true
  | 0, h => by simp [tmN] at h
  | j + 1, h => by
    by_cases e : isW v (xs.getD j opZero) = true
    · exact ⟨j, by omega, e⟩
    · unfold tmN at h
      rw [if_neg e] at h
      obtain ⟨q, h1, h2⟩ := tmN_ex (j := j) (by omega)
      exact ⟨q, by omega, h2⟩
theorem tmN_one {xs : List Opn} {v : Int} : ∀ {j q r : Nat}, tmN xs v j ≤ 1 → q < j → r < j → isW v (xs.getD q opZero) = true → isW v (xs.getD r opZero) = true → q = r
  | 0, _, _, _, h, _, _, _ => by omega
  | j + 1, q, r, h, hq, hr, h1, h2 => by
    unfold tmN at h
    by_cases e : isW v (xs.getD j opZero) = true
    · rw [if_pos e] at h
      by_cases e1 : q = j
      · by_cases e2 : r = j
        · omega
        · have := tmN_pos (j := j) (show r < j by omega) h2; omega
      · have := tmN_pos (j := j) (show q < j by omega) h1; omega
    · have e1 : q ≠ j := fun e1 => e (by rw [← e1]; exact h1)
      have e2 : r ≠ j := fun e2 => e (by rw [← e2]; exact h2)
      exact tmN_one (j := j) (by omega) (by omega) (by omega) h1 h2
theorem tmN_mono {xs : List Opn} {v : Int} {i j : Nat} (h : i ≤ j) : tmN xs v i ≤ tmN xs v j := by
  induction j with
  | zero => obtain rfl : i = 0 := by omega
            exact Nat.le_refl _
  | succ j ih =>
    by_cases e : i = j + 1
    · rw [e]; exact Nat.le_refl _
    · have := ih (by omega)
      show _ ≤ tmN xs v j + _
      omega
theorem tmT_mono {hs : List Txr} {v : Int} {i j : Nat} (h : i ≤ j) : tmT hs v i ≤ tmT hs v j := by
  induction j with
  | zero => obtain rfl : i = 0 := by omega
            exact Nat.le_refl _
  | succ j ih =>
    by_cases e : i = j + 1
    · rw [e]; exact Nat.le_refl _
    · have := ih (by omega)
      show _ ≤ tmT hs v j + _
      omega
theorem tmT_pos {hs : List Txr} {v : Int} {i t : Nat} (ht : t < i) : tmN (hs.getD t txrZero).ops v (hs.getD t txrZero).ops.length ≤ tmT hs v i := by
  have h1 := tmT_mono (hs := hs) (v := v) (show t + 1 ≤ i by omega)
  have h2 : tmT hs v (t + 1) = tmT hs v t + tmN (hs.getD t txrZero).ops v (hs.getD t txrZero).ops.length := rfl
  omega
theorem tmT_ex {hs : List Txr} {v : Int} : ∀ {i : Nat}, 1 ≤ tmT hs v i → ∃ t, t < i ∧ 1 ≤ tmN (hs.getD t txrZero).ops v (hs.getD t txrZero).ops.length
  | 0, h => by simp [tmT] at h
  | i + 1, h => by
    by_cases e : 1 ≤ tmN (hs.getD i txrZero).ops v (hs.getD i txrZero).ops.length
    · exact ⟨i, by omega, e⟩
    · have h' : 1 ≤ tmT hs v i + tmN (hs.getD i txrZero).ops v (hs.getD i txrZero).ops.length := h
      obtain ⟨t, h1, h2⟩ := tmT_ex (i := i) (show 1 ≤ tmT hs v i by omega)
      exact ⟨t, by omega, h2⟩
theorem tmT_one {hs : List Txr} {v : Int} : ∀ {i t u : Nat}, tmT hs v i ≤ 1 → t < i → u < i → 1 ≤ tmN (hs.getD t txrZero).ops v (hs.getD t txrZero).ops.length → 1 ≤ tmN (hs.getD u txrZero).ops v (hs.getD u txrZero).ops.length → t = u
  | 0, _, _, _, h, _, _, _ => by omega
  | i + 1, t, u, h, ht, hu, h1, h2 => by
    unfold tmT at h
    by_cases e1 : t = i
    · by_cases e2 : u = i
      · omega
      · have := tmT_pos (hs := hs) (v := v) (show u < i by omega)
        rw [e1] at h1
        omega
    · by_cases e2 : u = i
      · have := tmT_pos (hs := hs) (v := v) (show t < i by omega)
        rw [e2] at h2
        omega
      · exact tmT_one (i := i) (by omega) (by omega) (by omega) h1 h2
theorem isWK_isW {k v : Int} {x : Opn} (h : isWK k v x = true) : isW v x = true ∧ x.key = k := by
  unfold isWK at h
  unfold isW
  simp only [Bool.and_eq_true, beq_iff_eq] at h ⊢
  exact ⟨⟨h.1, h.2.2⟩, h.2.1⟩
theorem isW_isWK {v : Int} {x : Opn} (h : isW v x = true) : isWK x.key v x = true := by
  unfold isW at h
  unfold isWK
  simp only [Bool.and_eq_true, beq_iff_eq] at h ⊢
  exact ⟨h.1, trivial, h.2⟩
theorem wroteB_ex {xs : List Opn} {k v : Int} (h : wroteB xs k v = true) : ∃ q, q < xs.length ∧ isWK k v (xs.getD q opZero) = true := by
  unfold wroteB at h
  rw [List.any_eq_true] at h
  obtain ⟨q, h1, h2⟩ := h
  exact ⟨q, List.mem_range.1 h1, h2⟩
/-- What is written down. -/
structure GoodH (hs : List Txr) (i : Nat) (M : WM) : Prop where
  cnt : ∀ v, b2n (M v).isSome = tmT hs v i
  wr : ∀ v y, M v = some y → ∃ t : Nat, t < i ∧ y.txn = t ∧ wroteB (hs.getD t txrZero).ops y.key v = true ∧ y.last = isLast (hs.getD t txrZero).ops v
structure GoodO (t : Nat) (xs : List Opn) (M : WM) (j : Nat) (N : WM) : Prop where
  cnt : ∀ v, b2n (N v).isSome = b2n (M v).isSome + tmN xs v j
  wr : ∀ v y, N v = some y → (M v = some y ∧ tmN xs v j = 0) ∨ (y.txn = t ∧ y.last = false ∧ ∃ q, q < j ∧ isWK y.key v (xs.getD q opZero) = true)
theorem goodO {t : Nat} {xs : List Opn} {M : WM} : ∀ {j : Nat} {N : WM}, opsF t xs M j = some N → GoodO t xs M j N
  | 0, N, h => by
    cases h
    exact ⟨fun v => (by first | trivial | rfl), fun v y h => .inl (by first | exact ⟨h, rfl⟩ | exact h | exact ⟨h, trivial⟩)⟩
  | j + 1, N, h => by
    unfold opsF at h
    cases h0 : opsF t xs M j with
    | none => rw [h0] at h; cases h
    | some N0 =>
      have ih := goodO h0
      rw [h0, Option.bind_some] at h
      obtain ⟨x, hx⟩ : ∃ x, xs.getD j opZero = x := ⟨_, rfl⟩
      rw [hx] at h
      have hs : ∀ v, tmN xs v (j + 1) = tmN xs v j + if isW v x then 1 else 0 := fun v => by rw [← hx]; rfl
      by_cases hw : x.wr = true
      · rw [if_pos hw] at h
        split at h
        · cases h
        · rename_i hn
          cases h
          have hno : N0 x.val = none := by
            cases e : N0 x.val with
            | none => rfl
            | some y => rw [e] at hn; exact absurd rfl hn
          refine ⟨fun v => ?_, fun v y hy => ?_⟩
          · rw [hs]
            have h1 := ih.cnt v
            unfold putW isW
            by_cases e : v = x.val
            · subst e
              rw [hno] at h1
              rw [if_pos rfl, hw, beq_self_eq_true]
              simp [b2n] at h1 ⊢
              omega
            · rw [if_neg e, if_neg (by simp; exact fun _ e2 => e e2.symm)]
              omega
          · unfold putW at hy
            by_cases e : v = x.val
            · subst e
              rw [if_pos rfl] at hy
              cases hy
              refine .inr ⟨rfl, rfl, j, by omega, ?_⟩
              rw [hx]
              exact isW_isWK (by unfold isW; rw [hw]; simp)
            · rw [if_neg e] at hy
              rcases ih.wr v y hy with ⟨h1, h2⟩ | ⟨h1, h2, q, h3, h4⟩
              · refine .inl ⟨h1, ?_⟩
                rw [hs, h2, if_neg (by unfold isW; simp; exact fun _ e2 => e e2.symm)]
              · exact .inr ⟨h1, h2, q, by omega, h4⟩
      · rw [if_neg hw] at h
        cases h
        have hz : ∀ v, (if isW v x then 1 else 0) = 0 := fun v => by rw [if_neg]; unfold isW; simp [hw]
        refine ⟨fun v => ?_, fun v y hy => ?_⟩
        · rw [hs, hz]; exact ih.cnt v
        · rcases ih.wr v y hy with ⟨h1, h2⟩ | ⟨h1, h2, q, h3, h4⟩
          · exact .inl ⟨h1, by rw [hs, hz, h2]⟩
          · exact .inr ⟨h1, h2, q, by omega, h4⟩
theorem isLast_tm {xs : List Opn} {v : Int} (h : isLast xs v = true) : 1 ≤ tmN xs v xs.length := by
  rw [isLast_iff] at h
  obtain ⟨o, h1, h2⟩ := h
  obtain ⟨q, h3, h4⟩ := lastW_in h2
  refine tmN_pos h3 ?_
  rw [h4]
  unfold isW
  rw [(lastW_mem (Nat.le_refl _) h2).2.1, h1]
  simp
theorem goodH {hs : List Txr} : ∀ {i : Nat} {M : WM}, histF hs i = some M → GoodH hs i M
  | 0, M, h => by
    cases h
    exact ⟨fun v => rfl, fun v y h => by cases h⟩
  | i + 1, M', h => by
    unfold histF at h
    cases h0 : histF hs i with
    | none => rw [h0] at h; cases h
    | some M =>
      have ih := goodH h0
      rw [h0, Option.bind_some] at h
      obtain ⟨xs, hxs⟩ : ∃ xs, (hs.getD i txrZero).ops = xs := ⟨_, rfl⟩
      rw [hxs] at h
      unfold txnF at h
      cases h1 : opsF i xs M xs.length with
      | none => rw [h1] at h; cases h
      | some N =>
        rw [h1, Option.map_some] at h
        cases h
        have g := goodO h1
        have hT : ∀ v, tmT hs v (i + 1) = tmT hs v i + tmN xs v xs.length := fun v => by rw [← hxs]; rfl
        have hsome : ∀ v, isLast xs v = true → (N v).isSome = true := fun v h => by
          have h2 := isLast_tm h
          have h3 := g.cnt v
          cases e : (N v).isSome with
          | true => rfl
          | false => rw [e] at h3; simp [b2n] at h3; omega
        refine ⟨fun v => ?_, fun v y hy => ?_⟩
        · rw [hT, ← ih.cnt v, ← g.cnt v]
          unfold markF
          split
          · rename_i hp
            rw [hsome v hp]; rfl
          · rfl
        · unfold markF at hy
          split at hy
          · rename_i hp
            have h2 := isLast_tm hp
            obtain ⟨y0, h3⟩ := Option.isSome_iff_exists.1 (hsome v hp)
            rw [h3, Option.getD_some] at hy
            cases hy
            rcases g.wr v y0 h3 with ⟨_, h4⟩ | ⟨h4, h5, q, h6, h7⟩
            · omega
            · refine ⟨i, by omega, h4, ?_, ?_⟩
              · rw [hxs]; exact any_yes h6 h7
              · rw [hxs, hp]
          · rename_i hp
            rcases g.wr v y hy with ⟨h4, _⟩ | ⟨h4, h5, q, h6, h7⟩
            · obtain ⟨t, h5, h6⟩ := ih.wr v y h4
              exact ⟨t, by omega, h6⟩
            · refine ⟨i, by omega, h4, ?_, ?_⟩
              · rw [hxs]; exact any_yes h6 h7
              · rw [hxs, h5]; exact (Bool.not_eq_true _ ▸ hp).symm
theorem opsF_fail {t : Nat} {xs : List Opn} {M : WM} : ∀ {j : Nat}, opsF t xs M j = none → ∃ q v, q < j ∧ isW v (xs.getD q opZero) = true ∧ 2 ≤ b2n (M v).isSome + tmN xs v j
  | 0, h => by cases h
  | j + 1, h => by
    cases h0 : opsF t xs M j with
    | none =>
      obtain ⟨q, v, h1, h2, h3⟩ := opsF_fail h0
      exact ⟨q, v, by omega, h2, Nat.le_trans h3 (Nat.add_le_add_left (tmN_mono (Nat.le_succ j)) _)⟩
    | some N =>
      have g := goodO h0
      unfold opsF at h
      rw [h0, Option.bind_some] at h
      obtain ⟨x, hx⟩ : ∃ x, xs.getD j opZero = x := ⟨_, rfl⟩
      rw [hx] at h
      split at h
      · rename_i hw
        split at h
        · rename_i hn
          refine ⟨j, x.val, by omega, by rw [hx]; unfold isW; rw [hw]; simp, ?_⟩
          have h1 := g.cnt x.val
          rw [hn] at h1
          have h2 : tmN xs x.val (j + 1) = tmN xs x.val j + if isW x.val x then 1 else 0 := by rw [← hx]; rfl
          rw [h2, if_pos (by unfold isW; rw [hw]; simp)]
          simp [b2n] at h1 ⊢
          omega
        · cases h
      · cases h
theorem histF_fail {hs : List Txr} : ∀ {i : Nat}, histF hs i = none → ∃ t q v, t < i ∧ q < (hs.getD t txrZero).ops.length ∧ isW v ((hs.getD t txrZero).ops.getD q opZero) = true ∧ 2 ≤ tmT hs v i
  | 0, h => by cases h
  | i + 1, h => by
    cases h0 : histF hs i with
    | none =>
      obtain ⟨t, q, v, h1, h2, h3, h4⟩ := histF_fail h0
      exact ⟨t, q, v, by omega, h2, h3, Nat.le_trans h4 (tmT_mono (Nat.le_succ i))⟩
    | some M =>
      unfold histF at h
      rw [h0, Option.bind_some] at h
      unfold txnF at h
      cases h1 : opsF i (hs.getD i txrZero).ops M (hs.getD i txrZero).ops.length with
      | some N => rw [h1] at h; cases h
      | none =>
        obtain ⟨q, v, h2, h3, h4⟩ := opsF_fail h1
        refine ⟨i, q, v, by omega, h2, h3, ?_⟩
        rw [(goodH h0).cnt v] at h4
        exact h4
/-- Each value is written once, just if all are written down. -/
theorem hist_some {hs : List Txr} : (∃ M, histF hs hs.length = some M) ↔ ∀ t q, t < hs.length → q < (hs.getD t txrZero).ops.length → ((hs.getD t txrZero).ops.getD q opZero).wr = true → tmT hs ((hs.getD t txrZero).ops.getD q opZero).val hs.length = 1 := by
  constructor
  · rintro ⟨M, h⟩ t q ht hq hw
    have g := (goodH h).cnt ((hs.getD t txrZero).ops.getD q opZero).val
    have h1 := tmN_pos (v := ((hs.getD t txrZero).ops.getD q opZero).val) hq (by unfold isW; rw [hw]; simp)
    have h2 := tmT_pos (hs := hs) (v := ((hs.getD t txrZero).ops.getD q opZero).val) ht
    unfold b2n at g
    split at g <;> omega
  · intro h
    cases e : histF hs hs.length with
    | some M => exact ⟨M, rfl⟩
    | none =>
      obtain ⟨t, q, v, h1, h2, h3, h4⟩ := histF_fail e
      have h5 : ((hs.getD t txrZero).ops.getD q opZero).wr = true ∧ ((hs.getD t txrZero).ops.getD q opZero).val = v := by
        unfold isW at h3; simpa using h3
      have := h t q h1 h2 h5.1
      rw [h5.2] at this
      omega
theorem wrote_tm {xs : List Opn} {k v : Int} (h : wroteB xs k v = true) : 1 ≤ tmN xs v xs.length := by
  obtain ⟨q, h1, h2⟩ := wroteB_ex h
  exact tmN_pos h1 (isWK_isW h2).1
theorem one_key {hs : List Txr} {M : WM} (h : histF hs hs.length = some M) {k l v : Int} {t u : Nat} (ht : t < hs.length) (hu : u < hs.length) (h1 : wroteB (hs.getD t txrZero).ops k v = true) (h2 : wroteB (hs.getD u txrZero).ops l v = true) : t = u ∧ k = l := by
  have hle : tmT hs v hs.length ≤ 1 := by have g := (goodH h).cnt v; unfold b2n at g; split at g <;> omega
  have e := tmT_one hle ht hu (wrote_tm h1) (wrote_tm h2)
  subst e
  refine ⟨rfl, ?_⟩
  obtain ⟨q, h3, h4⟩ := wroteB_ex h1
  obtain ⟨r, h5, h6⟩ := wroteB_ex h2
  have h7 := tmN_one (Nat.le_trans (tmT_pos (v := v) ht) hle) h3 h5 (isWK_isW h4).1 (isWK_isW h6).1
  subst h7
  rw [← (isWK_isW h4).2, ← (isWK_isW h6).2]
theorem read_is {hs : List Txr} {M : WM} (h : histF hs hs.length = some M) (x : Opn) (hw : x.wr = false) : readOk M x = (x.val == 0 || hasWB hs x.key x.val) := by
  unfold readOk
  rw [hw, Bool.false_or]
  congr 1
  have g := goodH h
  rw [Bool.eq_iff_iff]
  constructor
  · intro h1
    cases e : M x.val with
    | none => rw [e] at h1; cases h1
    | some y =>
      rw [e] at h1
      have e2 : y.key = x.key := by simpa using h1
      obtain ⟨t, h2, _, h4, _⟩ := g.wr _ _ e
      rw [e2] at h4
      exact any_yes (p := fun i => wroteB (hs.getD i txrZero).ops x.key x.val) h2 h4
  · intro h1
    unfold hasWB at h1
    rw [List.any_eq_true] at h1
    obtain ⟨t, ht, h2⟩ := h1
    have ht := List.mem_range.1 ht
    have h3 := g.cnt x.val
    have h4 := wrote_tm h2
    have h5 := tmT_pos (hs := hs) (v := x.val) ht
    cases e : M x.val with
    | none => rw [e] at h3; simp [b2n] at h3; omega
    | some y =>
      obtain ⟨u, h6, _, h8, _⟩ := g.wr _ _ e
      have := (one_key h ht h6 h2 h8).2
      show (y.key == x.key) = true
      rw [this]
      exact beq_self_eq_true _

/-! ### Stamps -/
structure GoodS (hs : List Txr) (i : Nat) (S : St) : Prop where
  seen : ∀ v, S.seen v = true ↔ ∃ k, k < i ∧ ((hs.getD k txrZero).beg = v ∨ (hs.getD k txrZero).com = v)
  some : ∀ s e, S.last s = some e → (∃ k, k < i ∧ (hs.getD k txrZero).ses = s ∧ (hs.getD k txrZero).com = e) ∧ ∀ k, k < i → (hs.getD k txrZero).ses = s → (hs.getD k txrZero).com ≤ e
  none : ∀ s, S.last s = none → ∀ k, k < i → (hs.getD k txrZero).ses ≠ s
  apart : ∀ m, m < i → ∀ k, k < m → apartB (hs.getD k txrZero) (hs.getD m txrZero) = true
theorem apart_iff (a b : Txr) : apartB a b = true ↔ (a.beg ≠ b.beg ∧ a.beg ≠ b.com ∧ a.com ≠ b.beg ∧ a.com ≠ b.com) ∧ (a.ses = b.ses → a.com ≤ b.beg) := by
  unfold apartB
  simp only [Bool.and_eq_true, Bool.not_eq_true', Bool.or_eq_false_iff, beq_eq_false_iff_ne, Bool.and_eq_false_iff, decide_eq_false_iff_not]
  constructor
  · rintro ⟨⟨h1, h2, h3, h4⟩, h5⟩
    refine ⟨⟨h1, h2, h3, h4⟩, fun e => ?_⟩
    rcases h5 with h5 | h5
    · exact absurd e h5
    · omega
  · rintro ⟨⟨h1, h2, h3, h4⟩, h5⟩
    refine ⟨⟨h1, h2, h3, h4⟩, ?_⟩
    by_cases e : a.ses = b.ses
    · right; have := h5 e; omega
    · left; exact e
theorem step_iff {hs : List Txr} {i : Nat} {S : St} (g : GoodS hs i S) (hb : (hs.getD i txrZero).beg < (hs.getD i txrZero).com) : (S.seen (hs.getD i txrZero).beg || addB S.seen (hs.getD i txrZero).beg (hs.getD i txrZero).com || overB (S.last (hs.getD i txrZero).ses) (hs.getD i txrZero).beg) = false ↔ ∀ k, k < i → apartB (hs.getD k txrZero) (hs.getD i txrZero) = true := by
  obtain ⟨t, ht⟩ : ∃ t, hs.getD i txrZero = t := ⟨_, rfl⟩
  rw [ht] at hb ⊢
  rw [Bool.or_eq_false_iff, Bool.or_eq_false_iff]
  have hs1 : S.seen t.beg = false ↔ ∀ k, k < i → (hs.getD k txrZero).beg ≠ t.beg ∧ (hs.getD k txrZero).com ≠ t.beg := by
    rw [← Bool.not_eq_true, g.seen]
    constructor
    · intro h k hk
      exact ⟨fun e => h ⟨k, hk, .inl e⟩, fun e => h ⟨k, hk, .inr e⟩⟩
    · rintro h ⟨k, hk, e | e⟩
      · exact (h k hk).1 e
      · exact (h k hk).2 e
  have hs2 : addB S.seen t.beg t.com = false ↔ ∀ k, k < i → (hs.getD k txrZero).beg ≠ t.com ∧ (hs.getD k txrZero).com ≠ t.com := by
    unfold addB
    rw [Bool.or_eq_false_iff, ← Bool.not_eq_true (S.seen t.com), g.seen]
    constructor
    · rintro ⟨_, h⟩ k hk
      exact ⟨fun e => h ⟨k, hk, .inl e⟩, fun e => h ⟨k, hk, .inr e⟩⟩
    · intro h
      refine ⟨beq_false_of_ne (by omega), ?_⟩
      rintro ⟨k, hk, e | e⟩
      · exact (h k hk).1 e
      · exact (h k hk).2 e
  have hs3 : overB (S.last t.ses) t.beg = false ↔ ∀ k, k < i → (hs.getD k txrZero).ses = t.ses → (hs.getD k txrZero).com ≤ t.beg := by
    cases e : S.last t.ses with
    | none =>
      constructor
      · intro _ k hk h
        exact absurd h (g.none _ e k hk)
      · intro _; rfl
    | some c =>
      obtain ⟨⟨k0, h1, h2, h3⟩, h4⟩ := g.some _ _ e
      show decide (t.beg < c) = false ↔ _
      rw [decide_eq_false_iff_not]
      constructor
      · intro h k hk h5
        have := h4 k hk h5
        omega
      · intro h
        have := h k0 h1 h2
        omega
  rw [hs1, hs2, hs3]
  constructor
  · rintro ⟨⟨h1, h2⟩, h3⟩ k hk
    rw [apart_iff]
    exact ⟨⟨(h1 k hk).1, (h2 k hk).1, (h1 k hk).2, (h2 k hk).2⟩, h3 k hk⟩
  · intro h
    have h' := fun k hk => (apart_iff _ _).1 (h k hk)
    exact ⟨⟨fun k hk => ⟨(h' k hk).1.1, (h' k hk).1.2.2.1⟩, fun k hk => ⟨(h' k hk).1.2.1, (h' k hk).1.2.2.2⟩⟩, fun k hk => (h' k hk).2⟩
theorem goodS {hs : List Txr} (hb : ∀ k, k < hs.length → (hs.getD k txrZero).beg < (hs.getD k txrZero).com) : ∀ {i : Nat} {S : St}, i ≤ hs.length → stF hs i = some S → GoodS hs i S
  | 0, S, _, h => by
    cases h
    exact ⟨fun v => ⟨fun h => (by cases h), fun ⟨k, h, _⟩ => (by omega)⟩, fun s e h => (by cases h), fun s _ k hk => (by omega), fun m hm => (by omega)⟩
  | i + 1, S', hi, h => by
    unfold stF at h
    cases h0 : stF hs i with
    | none => rw [h0] at h; cases h
    | some S =>
      have g := goodS hb (by omega) h0
      rw [h0, Option.bind_some] at h
      have hstep := step_iff g (hb i (by omega))
      have hbi := hb i (by omega)
      obtain ⟨t, ht⟩ : ∃ t, hs.getD i txrZero = t := ⟨_, rfl⟩
      rw [ht] at h hstep hbi
      unfold stStep at h
      split at h
      · cases h
      · rename_i hno
        cases h
        have hap := hstep.1 (Bool.not_eq_true _ ▸ hno)
        refine ⟨fun v => ?_, fun s e he => ?_, fun s he k hk => ?_, fun m hm k hk => ?_⟩
        · show addB (addB S.seen t.beg) t.com v = true ↔ _
          unfold addB
          rw [Bool.or_eq_true, Bool.or_eq_true, g.seen]
          constructor
          · rintro (h | h | ⟨k, h1, h2⟩)
            · exact ⟨i, by omega, .inr (by rw [ht]; exact (beq_iff_eq.1 h).symm)⟩
            · exact ⟨i, by omega, .inl (by rw [ht]; exact (beq_iff_eq.1 h).symm)⟩
            · exact ⟨k, by omega, h2⟩
          · rintro ⟨k, h1, h2⟩
            by_cases e : k = i
            · subst e
              rw [ht] at h2
              rcases h2 with h2 | h2
              · exact .inr (.inl (beq_iff_eq.2 h2.symm))
              · exact .inl (beq_iff_eq.2 h2.symm)
            · exact .inr (.inr ⟨k, by omega, h2⟩)
        · have he : putI S.last t.ses t.com s = some e := he
          unfold putI at he
          split at he
          · rename_i hs1
            cases he
            refine ⟨⟨i, by omega, by rw [ht]; exact hs1.symm, by rw [ht]⟩, fun k hk h2 => ?_⟩
            by_cases e : k = i
            · subst e; rw [ht]; exact Int.le_refl _
            · have := ((apart_iff _ _).1 (hap k (by omega))).2 (by rw [h2]; exact hs1)
              omega
          · rename_i hs1
            obtain ⟨⟨k0, h1, h2⟩, h3⟩ := g.some _ _ he
            refine ⟨⟨k0, by omega, h2⟩, fun k hk h4 => ?_⟩
            by_cases e : k = i
            · subst e; rw [ht] at h4; exact absurd h4.symm hs1
            · exact h3 k (by omega) h4
        · have he : putI S.last t.ses t.com s = none := he
          unfold putI at he
          split at he
          · cases he
          · rename_i hs1
            by_cases e : k = i
            · subst e; rw [ht]; exact fun h => hs1 h.symm
            · exact g.none _ he k (by omega)
        · by_cases e : m = i
          · subst e; rw [ht]; exact hap k hk
          · exact g.apart m (by omega) k hk
theorem st_some {hs : List Txr} (hb : ∀ k, k < hs.length → (hs.getD k txrZero).beg < (hs.getD k txrZero).com) : (stF hs hs.length).isSome = true ↔ ∀ m, m < hs.length → ∀ k, k < m → apartB (hs.getD k txrZero) (hs.getD m txrZero) = true := by
  constructor
  · intro h
    obtain ⟨S, h⟩ := Option.isSome_iff_exists.1 h
    exact (goodS hb (Nat.le_refl _) h).apart
  · intro h
    have : ∀ i, i ≤ hs.length → ∃ S, stF hs i = some S := by
      intro i
      induction i with
      | zero => intro _; exact ⟨_, rfl⟩
      | succ i ih =>
        intro hi
        obtain ⟨S, hS⟩ := ih (by omega)
        exact ⟨_, stF_yes hS rfl ((step_iff (goodS hb (by omega) hS) (hb i (by omega))).2 (h i (by omega)))⟩
    obtain ⟨S, hS⟩ := this _ (Nat.le_refl _)
    rw [hS]; rfl

/-! ### Both -/
theorem txnOk_bc {t : Txr} (h : txrOkB t = true) : t.beg < t.com := by
  unfold txrOkB txnOk headOk at h
  simp only [Bool.and_eq_true, decide_eq_true_eq] at h
  omega
theorem all_iff {p : Nat → Bool} {n : Nat} : (List.range n).all p = true ↔ ∀ j, j < n → p j = true := by
  rw [List.all_eq_true]
  exact ⟨fun h j hj => h j (List.mem_range.2 hj), fun h j hj => h j (List.mem_range.1 hj)⟩
def docH (hs : List Txr) : Int := if bigB hs then 3 else if mayH hs then 0 else 2
theorem may_iff (hs : List Txr) : mayH hs = true ↔ allTxn hs = true ∧ (∀ m, m < hs.length → ∀ k, k < m → apartB (hs.getD k txrZero) (hs.getD m txrZero) = true) ∧ ∀ m, m < hs.length → ∀ j, j < (hs.getD m txrZero).ops.length → opFine hs ((hs.getD m txrZero).ops.getD j opZero) = true := by
  unfold mayH allTxn
  rw [all_iff, all_iff]
  constructor
  · intro h
    have h2 := fun m hm => by
      have := h m hm
      unfold mayAt at this
      rw [Bool.and_eq_true, Bool.and_eq_true, all_iff, all_iff] at this
      exact this
    exact ⟨fun m hm => (h2 m hm).1, fun m hm => (h2 m hm).2.1, fun m hm => (h2 m hm).2.2⟩
  · rintro ⟨h1, h2, h3⟩ m hm
    exact may_yes (h1 m hm) (h2 m hm) (h3 m hm)
theorem check_is (hs : List Txr) : chkH hs = docH hs := by
  unfold docH
  cases hb : bigB hs with
  | true => rw [chk_big hb]; rfl
  | false =>
    rw [if_neg (by decide)]
    by_cases hm : mayH hs = true
    · rw [if_pos hm]
      obtain ⟨h1, h2, h3⟩ := (may_iff hs).1 hm
      have hbc : ∀ k, k < hs.length → (hs.getD k txrZero).beg < (hs.getD k txrZero).com := fun k hk => txnOk_bc (all_iff.1 h1 k hk)
      obtain ⟨M, hM⟩ := hist_some.2 (fun t q ht hq hw => by
        have := h3 t ht q hq
        unfold opFine at this
        rw [if_pos hw] at this
        exact beq_iff_eq.1 this)
      refine chk_ok hb h1 hM ((st_some hbc).2 h2) ?_
      unfold allReads
      rw [all_iff]
      intro i hi
      unfold readsOk
      rw [all_iff]
      intro j hj
      cases hw : ((hs.getD i txrZero).ops.getD j opZero).wr with
      | true => unfold readOk; rw [hw]; rfl
      | false =>
        rw [read_is hM _ hw]
        have := h3 i hi j hj
        unfold opFine at this
        rw [hw] at this
        exact this
    · rw [if_neg hm]
      cases h1 : allTxn hs with
      | false => exact chk_txn hb h1
      | true =>
        have hbc : ∀ k, k < hs.length → (hs.getD k txrZero).beg < (hs.getD k txrZero).com := fun k hk => txnOk_bc (all_iff.1 h1 k hk)
        cases hM : histF hs hs.length with
        | none => exact chk_twice hb hM
        | some M =>
          cases h2 : (stF hs hs.length).isSome with
          | false => exact chk_st hb hM h2
          | true =>
            refine chk_read hb hM ?_
            rw [← Bool.not_eq_true]
            intro h3
            apply hm
            rw [may_iff]
            refine ⟨h1, (st_some hbc).1 h2, fun m hm j hj => ?_⟩
            unfold opFine
            cases hw : ((hs.getD m txrZero).ops.getD j opZero).wr with
            | true =>
              rw [if_pos rfl]
              exact beq_iff_eq.2 (hist_some.1 ⟨M, hM⟩ m j hm hj hw)
            | false =>
              have h4 := all_iff.1 (all_iff.1 h3 m hm) j hj
              rw [read_is hM _ hw] at h4
              exact h4
end Go.Proofs.Ytobfanodjdkkoaa
