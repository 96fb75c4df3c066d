/- RelChains answers true, whatever its argument, where the library's table reads as its text lays it. -/
import Derived.Test.YtbpmcjndlbkkiaaDoorRelIs
set_option linter.unusedVariables false
set_option linter.unusedSimpArgs false
namespace Go.Proofs.YtbpmcjndlbkkiaaDoor
open Go.RowKit
attribute [local go_sem ↓] zero_rel

/-! ### Plain -/
def eqR (r s : Nat → Nat) : Bool := (List.range 64).all fun k => r k == s k
theorem eql_rel (r s : Nat → Nat) (w : World) : (binOp .eql 27 (.agg (relArr r)) (.agg (relArr s))).run Tryd.prog w = .ok (.bool (eqR r s)) w :=
  run_eql_arr _ 25 64 (by kernel_rfl) _ _ w (fun k => r k == s k) (by kernel_rfl) (by kernel_rfl) (fun i hi => by
    have := run_equalIn_int (P := Tryd.prog) w 9998 (t := 25) (k := .u64) (k' := .u64) (a := (r i : Int)) (b := (s i : Int)) (by kernel_rfl)
    rw [this]
    congr 1
    rw [Bool.eq_iff_iff, beq_iff_eq, beq_iff_eq]; omega)
theorem eqR_iff (r s : Nat → Nat) : eqR r s = true ↔ ∀ i, i < 64 → r i = s i := by
  unfold eqR
  rw [List.all_eq_true]
  exact ⟨fun h i hi => by simpa using h i (List.mem_range.2 hi), fun h i hi => by simpa using h i (List.mem_range.1 hi)⟩
/-- The pairs of one number and those behind it. -/
def cpRow (l : List IPair) (a : Int) (ys : List Int) (n : Nat) : List IPair := (ys.take n).foldl (fun o b => if rightP a b then putP o a b else o) l
theorem cpRow_succ (l : List IPair) (a : Int) (ys : List Int) (n : Nat) (h : n < ys.length) : cpRow l a ys (n + 1) = if rightP a (ys.getD n 0) then putP (cpRow l a ys n) a (ys.getD n 0) else cpRow l a ys n := by
  unfold cpRow
  rw [List.take_add_one, List.getElem?_eq_getElem h, List.foldl_append, List.getD_eq_getElem?_getD, List.getElem?_eq_getElem h]
  rfl
theorem cpRow_len (l : List IPair) (a : Int) (ys : List Int) (n : Nat) : (cpRow l a ys n).length ≤ l.length + n := by
  induction n with
  | zero => simp [cpRow]
  | succ n ih =>
    by_cases h : n < ys.length
    · rw [cpRow_succ l a ys n h]
      split
      · have := putP_len (cpRow l a ys n) a (ys.getD n 0)
        omega
      · omega
    · have : cpRow l a ys (n + 1) = cpRow l a ys n := by unfold cpRow; rw [List.take_of_length_le (by omega), List.take_of_length_le (by omega)]
      rw [this]; omega
def cpTo (row : List Int) : Nat → List IPair
  | 0 => []
  | i + 1 => cpRow (cpTo row i) (row.getD i 0) (row.drop (i + 1)) (row.drop (i + 1)).length
theorem cpTo_len (row : List Int) : ∀ i, (cpTo row i).length ≤ i * row.length
  | 0 => by simp [cpTo]
  | i + 1 => by
    have h1 := cpTo_len row i
    have h2 := cpRow_len (cpTo row i) (row.getD i 0) (row.drop (i + 1)) (row.drop (i + 1)).length
    have h3 : (row.drop (i + 1)).length ≤ row.length := by rw [List.length_drop]; omega
    unfold cpTo
    rw [Nat.succ_mul]
    omega
/-- Is one there twice? -/
def twRow (t : Bool) (a : Int) (ys : List Int) (n : Nat) : Bool := (ys.take n).foldl (fun t b => if rightP a b then t || a == b else t) t
theorem twRow_succ (t : Bool) (a : Int) (ys : List Int) (n : Nat) (h : n < ys.length) : twRow t a ys (n + 1) = if rightP a (ys.getD n 0) then twRow t a ys n || a == ys.getD n 0 else twRow t a ys n := by
  unfold twRow
  rw [List.take_add_one, List.getElem?_eq_getElem h, List.foldl_append, List.getD_eq_getElem?_getD, List.getElem?_eq_getElem h]
  rfl
def twTo (row : List Int) : Nat → Bool
  | 0 => false
  | i + 1 => twRow (twTo row i) (row.getD i 0) (row.drop (i + 1)) (row.drop (i + 1)).length
theorem chain_is_row {s : Nat → Nat} {l : List IPair} (h : Is s l) (a : Int) (ys : List Int) : ∀ n, n ≤ ys.length → Is (chainRow s a ys n) (cpRow l a ys n)
  | 0, _ => h
  | n + 1, hn => by
    have ih := chain_is_row h a ys n (by omega)
    rw [chainRow_succ s a ys n (by omega), cpRow_succ l a ys n (by omega)]
    cases hr : rightP a (ys.getD n 0)
    · exact ih.add_not _ _ hr
    · exact ih.add _ _ hr
theorem chain_is (row : List Int) : ∀ k, Is (chainTo row k) (cpTo row k)
  | 0 => Is.none
  | k + 1 => chain_is_row (chain_is row k) _ _ _ (Nat.le_refl _)
theorem chainRow_bit (s : Nat → Nat) (a : Int) (i j : Nat) (hi : i < 64) (hj : j < 64) (ys : List Int) : E (chainRow s a ys ys.length) i j ↔ E s i j ∨ ((i : Int) = a ∧ (j : Int) ∈ ys) := by
  unfold chainRow
  rw [List.take_length]
  induction ys generalizing s with
  | nil => simp
  | cons y ys ih =>
    rw [List.foldl_cons, ih, addR_bit _ _ _ _ _ hi hj, List.mem_cons]
    constructor
    · rintro ((h | ⟨h1, h2⟩) | ⟨h1, h2⟩)
      · exact .inl h
      · exact .inr ⟨h1, .inl h2⟩
      · exact .inr ⟨h1, .inr h2⟩
    · rintro (h | ⟨h1, h2 | h2⟩)
      · exact .inl (.inl h)
      · exact .inl (.inr ⟨h1, h2⟩)
      · exact .inr ⟨h1, h2⟩
theorem mem_drop_iff (row : List Int) (n : Nat) (y : Int) : y ∈ row.drop n ↔ ∃ j, n ≤ j ∧ j < row.length ∧ row.getD j 0 = y := by
  constructor
  · intro h
    obtain ⟨j, hj, he⟩ := List.getElem_of_mem h
    rw [List.length_drop] at hj
    refine ⟨n + j, by omega, by omega, ?_⟩
    rw [List.getD_eq_getElem?_getD, List.getElem?_eq_getElem (by omega)]
    rw [List.getElem_drop] at he
    exact he
  · rintro ⟨j, h1, h2, rfl⟩
    rw [List.getD_eq_getElem?_getD, List.getElem?_eq_getElem h2]
    refine List.mem_of_getElem (i := j - n) (h := by rw [List.length_drop]; omega) ?_
    rw [List.getElem_drop]
    simp [show n + (j - n) = j from by omega]
theorem chainTo_bit (row : List Int) (x y : Nat) (hx : x < 64) (hy : y < 64) : ∀ k, k ≤ row.length → (E (chainTo row k) x y ↔ ∃ i j, i < k ∧ i < j ∧ j < row.length ∧ row.getD i 0 = (x : Int) ∧ row.getD j 0 = (y : Int))
  | 0, _ => by
    constructor
    · intro h
      have h' : (0 : Nat).testBit y = true := h
      rw [Nat.zero_testBit] at h'; cases h'
    · rintro ⟨i, j, h, _⟩; omega
  | k + 1, hk => by
    show E (chainRow (chainTo row k) (row.getD k 0) (row.drop (k + 1)) (row.drop (k + 1)).length) x y ↔ _
    rw [chainRow_bit _ _ _ _ hx hy, chainTo_bit row x y hx hy k (by omega), mem_drop_iff]
    constructor
    · rintro (⟨i, j, h1, h2, h3, h4, h5⟩ | ⟨h1, j, h2, h3, h4⟩)
      · exact ⟨i, j, by omega, h2, h3, h4, h5⟩
      · exact ⟨k, j, by omega, by omega, h3, h1.symm, h4⟩
    · rintro ⟨i, j, h1, h2, h3, h4, h5⟩
      by_cases e : i = k
      · subst e
        exact .inr ⟨h4.symm, j, by omega, h3, h5⟩
      · exact .inl ⟨i, j, by omega, h2, h3, h4, h5⟩
theorem chain_bit (row : List Int) (x y : Nat) (hx : x < 64) (hy : y < 64) : E (chainTo row row.length) x y ↔ ∃ i j, i < j ∧ j < row.length ∧ row.getD i 0 = (x : Int) ∧ row.getD j 0 = (y : Int) := by
  rw [chainTo_bit row x y hx hy _ (Nat.le_refl _)]
  constructor
  · rintro ⟨i, j, _, h⟩; exact ⟨i, j, h⟩
  · rintro ⟨i, j, h1, h2, h⟩; exact ⟨i, j, by omega, h1, h2, h⟩
theorem twRow_iff (t : Bool) (a : Int) (ys : List Int) : twRow t a ys ys.length = true ↔ t = true ∨ (inS a = true ∧ a ∈ ys) := by
  unfold twRow
  rw [List.take_length]
  induction ys generalizing t with
  | nil => simp
  | cons y ys ih =>
    rw [List.foldl_cons, ih, List.mem_cons]
    cases hr : rightP a y with
    | false =>
      rw [if_neg (by decide)]
      constructor
      · rintro (h | ⟨h1, h2⟩)
        · exact .inl h
        · exact .inr ⟨h1, .inr h2⟩
      · rintro (h | ⟨h1, h2 | h2⟩)
        · exact .inl h
        · exfalso
          subst h2
          unfold rightP at hr
          rw [h1] at hr; cases hr
        · exact .inr ⟨h1, h2⟩
    | true =>
      rw [if_pos rfl, Bool.or_eq_true, beq_iff_eq]
      have ha : inS a = true := by unfold rightP at hr; rw [Bool.and_eq_true] at hr; exact hr.1
      constructor
      · rintro ((h | h) | ⟨h1, h2⟩)
        · exact .inl h
        · exact .inr ⟨ha, .inl h⟩
        · exact .inr ⟨h1, .inr h2⟩
      · rintro (h | ⟨h1, h2 | h2⟩)
        · exact .inl (.inl h)
        · exact .inl (.inr h2)
        · exact .inr ⟨h1, h2⟩
theorem twTo_iff (row : List Int) : ∀ k, k ≤ row.length → (twTo row k = true ↔ ∃ i j, i < k ∧ i < j ∧ j < row.length ∧ inS (row.getD i 0) = true ∧ row.getD j 0 = row.getD i 0)
  | 0, _ => by
    constructor
    · intro h; cases h
    · rintro ⟨i, j, h, _⟩; omega
  | k + 1, hk => by
    show twRow (twTo row k) (row.getD k 0) (row.drop (k + 1)) (row.drop (k + 1)).length = true ↔ _
    rw [twRow_iff, twTo_iff row k (by omega), mem_drop_iff]
    constructor
    · rintro (⟨i, j, h1, h2, h3, h4, h5⟩ | ⟨h1, j, h2, h3, h4⟩)
      · exact ⟨i, j, by omega, h2, h3, h4, h5⟩
      · exact ⟨k, j, by omega, by omega, h3, h1, h4⟩
    · rintro ⟨i, j, h1, h2, h3, h4, h5⟩
      by_cases e : i = k
      · subst e
        exact .inr ⟨h4, j, by omega, h3, h5⟩
      · exact .inl ⟨i, j, by omega, h2, h3, h4, h5⟩
/-- Where none is there twice, a row's relation is closed. -/
theorem chain_closed (row : List Int) (h : twTo row row.length = false) : ∀ i j, i < 64 → j < 64 → (E (closeR (chainTo row row.length) 64) i j ↔ E (chainTo row row.length) i j) := by
  intro i j hi hj
  rw [show E (closeR (chainTo row row.length) 64) i j ↔ War (E (chainTo row row.length)) 64 i j from closeR_war _ 64 (Nat.le_refl _) i j hi hj]
  constructor
  · have key : ∀ k i j, k ≤ 64 → i < 64 → j < 64 → War (E (chainTo row row.length)) k i j → E (chainTo row row.length) i j := by
      intro k
      induction k with
      | zero => intro i j _ _ _ h; exact h
      | succ k ih =>
        intro i j hk hi hj hw
        rcases hw with hw | ⟨h1, h2⟩
        · exact ih i j (by omega) hi hj hw
        · have e1 := (chain_bit row i k hi (by omega)).1 (ih i k (by omega) hi (by omega) h1)
          have e2 := (chain_bit row k j (by omega) hj).1 (ih k j (by omega) (by omega) hj h2)
          obtain ⟨a, b, hab, hb, ha1, hb1⟩ := e1
          obtain ⟨c, d, hcd, hd, hc1, hd1⟩ := e2
          have hbc : b = c := by
            have hno : ∀ p q, p < q → q < row.length → row.getD p 0 = (k : Int) → row.getD q 0 = (k : Int) → False := by
              intro p q hpq hq h1 h2
              have := (twTo_iff row row.length (Nat.le_refl _)).2 ⟨p, q, by omega, hpq, hq, by rw [h1]; unfold inS; exact decide_eq_true (by omega), by rw [h1, h2]⟩
              rw [h] at this; cases this
            by_cases h1 : b < c
            · exact (hno b c h1 (by omega) hb1 hc1).elim
            · by_cases h2 : c < b
              · exact (hno c b h2 hb hc1 hb1).elim
              · omega
          subst hbc
          exact (chain_bit row i j hi hj).2 ⟨a, d, by omega, hd, ha1, hd1⟩
    exact key 64 i j (Nat.le_refl _) hi hj
  · exact War.sub _ _ _
theorem chain_closed_eq (row : List Int) (h : twTo row row.length = false) : eqR (closeR (chainTo row row.length) 64) (chainTo row row.length) = true := by
  rw [eqR_iff]
  exact rel_ext (closeR_ok (chainTo_ok row _) 64) (chainTo_ok row _) (chain_closed row h)
theorem chain_acyclic (row : List Int) : acyR (chainTo row row.length) = !twTo row row.length := by
  cases h : twTo row row.length with
  | false =>
    show _ = true
    rw [acyR_iff]
    intro i hi he
    obtain ⟨a, b, hab, hb, h1, h2⟩ := (chain_bit row i i hi hi).1 ((chain_closed row h i i hi hi).1 he)
    have := (twTo_iff row row.length (Nat.le_refl _)).2 ⟨a, b, by omega, hab, hb, by rw [h1]; unfold inS; exact decide_eq_true (by omega), by rw [h1, h2]⟩
    rw [h] at this; cases this
  | true =>
    show _ = false
    obtain ⟨a, b, _, hab, hb, hin, he⟩ := (twTo_iff row row.length (Nat.le_refl _)).1 h
    have hin := of_decide_eq_true hin
    cases hc : acyR (chainTo row row.length) with
    | false => rfl
    | true =>
      exfalso
      rw [acyR_iff] at hc
      obtain ⟨x, hx⟩ := Int.eq_ofNat_of_zero_le hin.1
      refine hc x (by omega) ?_
      rw [show E (closeR (chainTo row row.length) 64) x x ↔ War (E (chainTo row row.length)) 64 x x from closeR_war _ 64 (Nat.le_refl _) x x (by omega) (by omega)]
      exact War.sub _ _ _ ((chain_bit row x x (by omega) (by omega)).2 ⟨a, b, hab, hb, hx, by rw [he, hx]⟩)

set_option maxRecDepth 100000 in
set_option maxHeartbeats 4000000 in
theorem law_chains (w : World) (hT : Tab w) (va : Value) (row : List Int) (hva : Ints w va row) :
    Calls Tryd.prog 5 #[va] w fun e w' => e = .returned (.bool true) ∧ Below w.heap.size w w' := by
  obtain ⟨A, c, rfl⟩ := hva.shape
  have hal := hva.len
  go_enter Tryd.func5, Tryd.ntmps5
  go_wp2_with fail
  refine (speaks02 _ hT).mono ?_
  rintro e w1 ⟨rfl, hc1⟩
  have HA1 := Lib.hid (hva.keep hc1)
  clear hva hT
  by_cases ha : 80 < row.length
  · have ha' : (80 : Int) < (row.length : Int) := by omega
    go_wp2_with fail
    go_ret
    exact ⟨rfl, hc1.below⟩
  have ha' : ¬ (80 : Int) < (row.length : Int) := by omega
  go_wp2_with fail
  refine (chain_rel _ row _ HA1.out (by omega)).mono ?_
  rintro e w2 ⟨rfl, hc2⟩
  have okr := chainTo_ok row row.length
  have HIS := Lib.hid (chain_is row row.length)
  have HACY := Lib.hid (chain_acyclic row)
  have HCLO := Lib.hid (chain_closed_eq row)
  have hcpl := cpTo_len row row.length
  obtain ⟨r, hr⟩ : ∃ r, chainTo row row.length = r := ⟨_, rfl⟩
  rw [hr] at okr HIS HACY HCLO ⊢
  clear hr
  obtain ⟨Z, hZ⟩ : ∃ Z, (relArr fun _ => 0) = Z := ⟨_, rfl⟩
  have hzz : Z.size = 64 := by rw [← hZ]; exact relArr_size _
  obtain ⟨R, hR⟩ : ∃ R, relArr r = R := ⟨_, rfl⟩
  have hsr : R.size = 64 := by rw [← hR]; exact relArr_size _
  have hcr := relArr_cells r
  rw [hR] at hcr
  obtain ⟨hr3, hc3⟩ := new_row w2 Z R 27
  have HA3 := Lib.hid ((HA1.out.keep hc2).keep hc3)
  have hc4 := (hc1.seq hc2).seq hc3
  have HRR := Lib.hid hR
  rw [hR]
  have HR3 := Lib.hid hr3
  have hgl : w2.heap.size < ((w2.alloc (.cells Z 27)).setRow w2.heap.size R).heap.size := hr3.lt
  clear HA1 hc1 hc2 hc3 hR hr3
  go_wp2_with (refine wpList_store_row rfl 27 (.tmp 3) (.tmp 17) rfl w2.heap.size R rfl rfl 27 Z (Blk.new w2 Z _) (by rw [hsr]; kernel_rfl) (by rw [hzz, hsr]) hcr ?_)
  generalize (w2.alloc _).setRow _ _ = w3 at HR3 HA3 hc4 hgl ⊢
  obtain ⟨g, hg⟩ : ∃ g, w2.heap.size = g := ⟨_, rfl⟩
  rw [hg] at HR3 hgl ⊢
  rw [← HRR.out] at HR3
  rw [← HRR.out]
  clear hsr hcr HRR hZ hzz hg hgl
  have hn3 : Pairs w3 (.slice none 0 0) [] := ⟨none, 0, rfl, by simp, fun h => absurd h (by simp)⟩
  have hcr := Ch.refl nob w3
  go_loopw [4, 5, 20] (fun o t q wr => ∃ i : Nat, q = .int .i64 i ∧ i ≤ row.length ∧ t = .bool (twTo row i) ∧ Pairs wr o (cpTo row i) ∧ Ch nob w3 wr) (fun _ _ q _ => row.length - (intOf q).toNat)
  case atStart => exact ⟨0, rfl, by omega, rfl, hn3, hcr⟩
  case round =>
    clear hn3 hcr
    obtain ⟨i, rfl, hi, rfl, ho, hc⟩ := hrel
    by_cases hlt : i < row.length
    · have hd : decide ((i : Int) < (row.length : Int)) = true := decide_eq_true (by omega)
      have hcells := (HA3.out.keep hc).at.2.2
      obtain ⟨ad, rfl, hx⟩ := hcells i hlt
      have HD := Lib.hid (fun (B : Option Addr) h => HA3.out.drop (i + 1) (by omega) B h)
      have HN := Lib.hid (show cpTo row (i + 1) = cpRow (cpTo row i) (row.getD i 0) (row.drop (i + 1)) (row.drop (i + 1)).length from rfl)
      have HW := Lib.hid (show twTo row (i + 1) = twRow (twTo row i) (row.getD i 0) (row.drop (i + 1)) (row.drop (i + 1)).length from rfl)
      have hcp := cpTo_len row i
      have hmul : i * row.length ≤ 80 * 80 := Nat.mul_le_mul (by omega) (by omega)
      obtain ⟨a, ha0⟩ : ∃ a, row.getD i 0 = a := ⟨_, rfl⟩
      rw [ha0] at hx HN HW
      obtain ⟨t0, ht0⟩ : ∃ t0, twTo row i = t0 := ⟨_, rfl⟩
      rw [ht0] at HW ⊢
      obtain ⟨l0, hl0⟩ : ∃ l0, cpTo row i = l0 := ⟨_, rfl⟩
      rw [hl0] at HN ho hcp
      have hcap := HA3.out.cap
      have hib : (i : Int) + 1 ≤ (row.length : Int) := by omega
      have hlen2 : (row.drop (i + 1)).length = row.length - (i + 1) := List.length_drop
      obtain ⟨m, hm⟩ : ∃ m, row.drop (i + 1) = m := ⟨_, rfl⟩
      rw [hm] at HD HN HW hlen2
      have HLE := Lib.hid hlen2
      have hmb : m.length ≤ 80 := by omega
      clear ha0 ht0 hl0 hcells hm hlen2
      have hHI : (c = i + 1 ∧ Ints w3 (.slice (some ad) (row.length - (i + 1)) 0) m) ∨ (c ≠ i + 1 ∧ Ints w3 (.slice (some ⟨ad.block, ad.off + (i + 1), none⟩) (row.length - (i + 1)) (c - (i + 1))) m) := by
        by_cases hcc : c = i + 1
        · left
          refine ⟨hcc, ?_⟩
          have := HD.out (some ad) (fun h => by omega)
          rwa [show c - (i + 1) = 0 from by omega] at this
        · right
          exact ⟨hcc, HD.out _ (fun _ ad' h => by obtain rfl : ad = ad' := by simpa using h
                                                  unfold Addr.add; rw [if_neg (by omega)])⟩
      clear HD
      rcases hHI with ⟨rfl, hI⟩ | ⟨hcc, hI⟩
      · obtain rfl : m = [] := List.eq_nil_of_length_eq_zero (by have := HLE.out; omega)
        have HN2 := Lib.hid (show cpTo row (i + 1) = l0 from by rw [HN.out]; rfl)
        have HW2 := Lib.hid (show twTo row (i + 1) = t0 from by rw [HW.out]; rfl)
        clear hI HN HW
        go_wp2_with fail
        go_loopw [4, 5, 30] (fun o t q wr => t = .bool t0 ∧ q = .int .i64 0 ∧ Pairs wr o l0 ∧ Ch nob w3 wr) (fun _ _ q _ => 0)
        case atStart => exact ⟨rfl, rfl, ho, hc⟩
        case round =>
          clear ho hc
          obtain ⟨rfl, rfl, ho, hc⟩ := hrel
          rw [← HN2.out] at ho
          clear HN2
          go_wp2_with fail
          go_roundw
          case rel => exact ⟨i + 1, by go_num, by omega, by rw [HW2.out], ho, hc⟩
          case measure => simp [intOf]; omega
      · have HI := Lib.hid (fun (w' : World) (h : Ch nob w3 w') => hI.keep h)
        clear hI
        go_wp2_with fail
        rw [← HLE.out]
        go_loopw [4, 5, 30] (fun o t q wr => ∃ j : Nat, q = .int .i64 j ∧ j ≤ m.length ∧ t = .bool (twRow t0 a m j) ∧ Pairs wr o (cpRow l0 a m j) ∧ Ch nob w3 wr) (fun _ _ q _ => m.length - (intOf q).toNat)
        case atStart => exact ⟨0, rfl, by omega, rfl, ho, hc⟩
        case round =>
          clear ho hc
          obtain ⟨j, rfl, hj, rfl, ho, hc⟩ := hrel
          by_cases hltj : j < m.length
          · have hd2 : decide ((j : Int) < (m.length : Int)) = true := decide_eq_true (by omega)
            have hml := HLE.out
            have hii := HI.out _ hc
            rw [← HLE.out] at hii
            have hcells := hii.at.2.2
            obtain ⟨bd, hbd, hx2⟩ := hcells j hltj
            simp only [Option.some.injEq] at hbd
            subst hbd
            rw [add_lit] at hx2
            have hcl := cpRow_len l0 a m j
            have hbd : (cpRow l0 a m j).length ≤ 1000000 := by omega
            clear hcells hml hii hcl
            have HS := Lib.hid (cpRow_succ l0 a m j hltj)
            have HS2 := Lib.hid (twRow_succ t0 a m j hltj)
            obtain ⟨z, hz0⟩ : ∃ z, m.getD j 0 = z := ⟨_, rfl⟩
            rw [hz0] at hx2 HS HS2
            obtain ⟨l1, hl1⟩ : ∃ l1, cpRow l0 a m j = l1 := ⟨_, rfl⟩
            rw [hl1] at HS ho hbd
            obtain ⟨t1, ht1⟩ : ∃ t1, twRow t0 a m j = t1 := ⟨_, rfl⟩
            rw [ht1] at HS2 ⊢
            clear hz0 hl1 ht1
            have hb4 := Blk.new wr #[.int .i64 a, .int .i64 z] 42
            have ho4 := ho.keep ((Ch.refl nob wr).alloc (.cells #[.int .i64 a, .int .i64 z] 42))
            have hc4' := hc.alloc (.cells #[.int .i64 a, .int .i64 z] 42)
            go_wp2_with fail
            refine (right_ref02 a z _).mono ?_
            rintro e w5 ⟨rfl, hc5⟩
            have ho5 := ho4.keep hc5
            have hc6 := hc4'.seq hc5
            clear hb4 ho hc ho4 hc4' hc5 hx2
            cases hq : rightP a z
            · have HE := Lib.hid (show cpRow l0 a m (j + 1) = l1 from by rw [HS.out, hq]; rfl)
              have HE2 := Lib.hid (show twRow t0 a m (j + 1) = t1 from by rw [HS2.out, hq]; rfl)
              rw [← HE.out] at ho5
              clear HS HS2 HE hq
              go_wp2_with fail
              go_roundw
              case rel => exact ⟨j + 1, by go_num, by omega, by rw [HE2.out], ho5, hc6⟩
              case measure => simp [intOf]; omega
            · have HE := Lib.hid (show cpRow l0 a m (j + 1) = putP l1 a z from by rw [HS.out, hq]; rfl)
              have HE2 := Lib.hid (show twRow t0 a m (j + 1) = (t1 || a == z) from by rw [HS2.out, hq]; rfl)
              clear HS HS2 hq
              go_wp2_with fail
              refine (put_ref02 _ l1 a z _ ho5 hbd).mono ?_
              rintro e w7 ⟨u7, rfl, ho7, hc7⟩
              rw [← HE.out] at ho7
              have hc8 := hc6.seq hc7
              clear ho5 hc6 hc7 HE
              cases t1
              · go_wp2_with fail
                go_roundw
                case rel => exact ⟨j + 1, by go_num, by omega, by rw [HE2.out]; rfl, ho7, hc8⟩
                case measure => simp [intOf]; omega
              · go_wp2_with fail
                go_roundw
                case rel => exact ⟨j + 1, by go_num, by omega, by rw [HE2.out]; rfl, ho7, hc8⟩
                case measure => simp [intOf]; omega
          · obtain rfl : j = m.length := by omega
            have hd2 : decide ((m.length : Int) < (m.length : Int)) = false := by simp
            rw [← HN.out] at ho
            rw [← HW.out]
            clear HN HW
            go_wp2_with fail
            go_roundw
            case rel => exact ⟨i + 1, by go_num, by omega, rfl, ho, hc⟩
            case measure => simp [intOf]; omega
    · obtain rfl : i = row.length := by omega
      have hd : decide ((row.length : Int) < (row.length : Int)) = false := by simp
      obtain ⟨wz, rfl⟩ : ∃ wz : World, wz = wr := ⟨_, rfl⟩
      obtain ⟨F, cf, rfl⟩ := ho.shape
      have hrz := HR3.out.ch hc (fun h => h)
      have hcz := hc4.seq hc
      obtain ⟨l, hl⟩ : ∃ l, cpTo row row.length = l := ⟨_, rfl⟩
      rw [hl] at HIS ho ⊢
      have HSM := Lib.hid HIS.out.same
      have HSA := Lib.hid (fun (u : Ext wz) => ext_of (same_law02 r okr _ l u.val (ho.keep u.ch)))
      rw [HSM.out] at HSA
      have HAC := Lib.hid (fun (u : Ext wz) => ext_of (acyclic_rel r okr u.val))
      rw [HACY.out] at HAC
      have HCL := Lib.hid (fun (u : Ext wz) => ext_of (closure_rel r okr u.val))
      have HQ := Lib.hid (fun w => eql_rel (closeR r 64) r w)
      generalize closeR r 64 = cl at HCL HQ HCLO
      obtain ⟨tw, htw⟩ : ∃ tw, twTo row row.length = tw := ⟨_, rfl⟩
      rw [htw] at HAC HCLO ⊢
      clear hl htw hc ho HSM HACY HIS hc4
      cases tw
      · have hq := fun w => HQ.out w
        rw [HCLO.out rfl] at hq
        go_wp2_with fail
        refine wp_region_ch (w0 := wz) (by kernel_rfl) (by kernel_rfl) (Ch.refl _ _) ?_
        repeat (first
          | (go_big_quiet_want; refine quiet_load_row 27 (.tmp 3) rfl g rfl 27 (relArr r) (by rintro _ ⟨u, rfl⟩; exact Ext.blk hrz u) _ rfl rfl (by rw [relArr_size]; kernel_rfl) ?_; simp only [Act.put, List.setIfInBounds_toArray, List.set_cons_succ, List.set_cons_zero]; go_big_quiet_on)
          | go_big_quiet_step (first | (go_at_call 20; exact HSA.out _) | (go_at_call 21; exact HAC.out _) | (go_at_call 22; exact HCL.out _)))
        refine wpQuiet_nil ?_
        rintro wq ⟨⟨_, hcq⟩, rfl⟩
        have hend := hcz.seq hcq
        go_wp2_with fail
        go_ret
        exact ⟨rfl, hend.below⟩
      · go_wp2_with fail
        refine wp_region_ch (w0 := wz) (by kernel_rfl) (by kernel_rfl) (Ch.refl _ _) ?_
        repeat (first
          | (go_big_quiet_want; refine quiet_load_row 27 (.tmp 3) rfl g rfl 27 (relArr r) (by rintro _ ⟨u, rfl⟩; exact Ext.blk hrz u) _ rfl rfl (by rw [relArr_size]; kernel_rfl) ?_; simp only [Act.put, List.setIfInBounds_toArray, List.set_cons_succ, List.set_cons_zero]; go_big_quiet_on)
          | go_big_quiet_step (first | (go_at_call 20; exact HSA.out _) | (go_at_call 21; exact HAC.out _) | (go_at_call 22; exact HCL.out _)))
        refine wpQuiet_nil ?_
        rintro wq ⟨⟨_, hcq⟩, rfl⟩
        have hend := hcz.seq hcq
        go_wp2_with fail
        go_ret
        exact ⟨rfl, hend.below⟩
end Go.Proofs.YtbpmcjndlbkkiaaDoor
