/- Texts of this claim, merged: May05 TxnRight Txns HistA MayOp MayTxn OplOpen HistP HistW HistS HistC HistR. -/
import Derived.Test.YtlhfpnkfapghoaaDoorPk1
import Derived.Deep.Strs
import Derived.Deep.SlicePairs
section
/- Which operations may be, by the law. No condition but each theorem's own. -/
set_option linter.unusedVariables false
set_option linter.unusedSimpArgs false
namespace Go.Proofs.YtlhfpnkfapghoaaDoor
open Go.RowKit Go.Maps

def mayL (xs : List Opn) : Bool := (List.range xs.length).all fun i => opOk (xs.getD i opZero)
def mayN (xs : List Opn) : Int := if mayL xs then 1 else 0
theorem mayN_yes {xs : List Opn} (h : mayL xs = true) : 1 = mayN xs := by unfold mayN; rw [h]; rfl
theorem mayN_no {xs : List Opn} (h : mayL xs = false) : 0 = mayN xs := by unfold mayN; rw [h]; rfl
theorem may_no {xs : List Opn} {i : Nat} (hi : i < xs.length) (h : opOk (xs.getD i opZero) = false) : mayL xs = false := by
  unfold mayL
  rw [List.all_eq_false]
  exact ⟨i, List.mem_range.2 hi, (by show ¬ opOk (xs.getD i opZero) = true; rw [h]; decide)⟩
theorem may_all {xs : List Opn} (h : ∀ i, i < xs.length → opOk (xs.getD i opZero) = true) : mayL xs = true := by
  unfold mayL
  rw [List.all_eq_true]
  intro i hi
  exact h i (List.mem_range.1 hi)
theorem may_at {xs : List Opn} (h : mayL xs = true) {i : Nat} (hi : i < xs.length) : opOk (xs.getD i opZero) = true := by
  unfold mayL at h
  rw [List.all_eq_true] at h
  exact h i (List.mem_range.2 hi)
end Go.Proofs.YtlhfpnkfapghoaaDoor
end

section
/- Which transactions may be, by the program. No condition but each theorem's own. -/
set_option linter.unusedVariables false
set_option linter.unusedSimpArgs false
namespace Go.Proofs.YtlhfpnkfapghoaaDoor
open Go.RowKit Go.Maps

/-- A transaction: its session, when it begins and commits, its operations. -/
structure Txr where
  ses : Int
  beg : Int
  com : Int
  ops : List Opn
def headOk (s b c : Int) (n : Nat) : Bool := decide (0 ≤ s) && decide (s < 64) && decide (0 ≤ b) && decide (b < c) && decide (c ≤ 2147483647) && decide (1 ≤ n) && decide (n ≤ 64)
def txnOk (s b c : Int) (xs : List Opn) : Bool := headOk s b c xs.length && mayL xs
theorem txnOk_head {s b c : Int} {xs : List Opn} (h : headOk s b c xs.length = false) : txnOk s b c xs = false := by unfold txnOk; rw [h]; rfl
theorem txnOk_rest {s b c : Int} {xs : List Opn} (h : headOk s b c xs.length = true) : txnOk s b c xs = mayL xs := by unfold txnOk; rw [h]; rfl
theorem headOk_no {s b c : Int} {n : Nat} (h : s < 0 ∨ 64 ≤ s ∨ b < 0 ∨ c ≤ b ∨ 2147483647 < c ∨ n < 1 ∨ 64 < n) : headOk s b c n = false := by
  rw [← Bool.not_eq_true]
  unfold headOk
  simp only [Bool.and_eq_true, decide_eq_true_eq]
  omega
theorem headOk_yes {s b c : Int} {n : Nat} (h : ¬ (s < 0 ∨ 64 ≤ s ∨ b < 0 ∨ c ≤ b ∨ 2147483647 < c ∨ n < 1 ∨ 64 < n)) : headOk s b c n = true := by
  unfold headOk
  simp only [Bool.and_eq_true, decide_eq_true_eq]
  omega
set_option maxHeartbeats 4000000 in
theorem right_txn (w : World) (v : Value) (xs : List Opn) (s b c : Int) (hv : Opl w v xs) : Calls Tryd.prog 116 #[.agg #[.int .i64 s, .int .i64 b, .int .i64 c, v]] w fun e w' => e = .returned (.bool (txnOk s b c xs)) ∧ Ch nob w w' := by
  obtain ⟨A, cp, rfl⟩ := hv.shape
  have HV := Lib.hid hv
  obtain ⟨n, hn2⟩ : ∃ n, xs.length = n := ⟨_, rfl⟩
  have HN := Lib.hid hn2
  rw [hn2] at HV ⊢
  obtain ⟨_, hc0, _⟩ := one_new w #[.int .i64 s, .int .i64 b, .int .i64 c, .slice A n cp] 118
  have hno : headOk s b c n = false → Hid (txnOk s b c xs = false) := fun h => Lib.hid (txnOk_head (by rw [HN.out]; exact h))
  have HNO := Lib.hid hno
  clear hv hn2 hno
  by_cases h0 : s < 0
  · have d0 : decide (s < 0) = true := decide_eq_true h0
    have HF := HNO.out (headOk_no (by omega))
    go_enter Tryd.func116, Tryd.ntmps116
    go_wp2_with fail
    go_ret
    exact ⟨ret_bool HF.out.symm, hc0⟩
  · have d0 : decide (s < 0) = false := decide_eq_false h0
    by_cases h1 : (64 : Int) ≤ s
    · have d1 : decide ((64 : Int) ≤ s) = true := decide_eq_true h1
      have HF := HNO.out (headOk_no (by omega))
      go_enter Tryd.func116, Tryd.ntmps116
      go_wp2_with fail
      go_ret
      exact ⟨ret_bool HF.out.symm, hc0⟩
    · have d1 : decide ((64 : Int) ≤ s) = false := decide_eq_false h1
      by_cases h2 : b < 0
      · have d2 : decide (b < 0) = true := decide_eq_true h2
        have HF := HNO.out (headOk_no (by omega))
        go_enter Tryd.func116, Tryd.ntmps116
        go_wp2_with fail
        go_ret
        exact ⟨ret_bool HF.out.symm, hc0⟩
      · have d2 : decide (b < 0) = false := decide_eq_false h2
        by_cases h3 : c ≤ b
        · have d3 : decide (c ≤ b) = true := decide_eq_true h3
          have HF := HNO.out (headOk_no (by omega))
          go_enter Tryd.func116, Tryd.ntmps116
          go_wp2_with fail
          go_ret
          exact ⟨ret_bool HF.out.symm, hc0⟩
        · have d3 : decide (c ≤ b) = false := decide_eq_false h3
          by_cases h4 : (2147483647 : Int) < c
          · have d4 : decide ((2147483647 : Int) < c) = true := decide_eq_true h4
            have HF := HNO.out (headOk_no (by omega))
            go_enter Tryd.func116, Tryd.ntmps116
            go_wp2_with fail
            go_ret
            exact ⟨ret_bool HF.out.symm, hc0⟩
          · have d4 : decide ((2147483647 : Int) < c) = false := decide_eq_false h4
            by_cases h5 : (n : Int) < 1
            · have d5 : decide ((n : Int) < 1) = true := decide_eq_true h5
              have HF := HNO.out (headOk_no (by omega))
              go_enter Tryd.func116, Tryd.ntmps116
              go_wp2_with fail
              go_ret
              exact ⟨ret_bool HF.out.symm, hc0⟩
            · have d5 : decide ((n : Int) < 1) = false := decide_eq_false h5
              by_cases h6 : (64 : Int) < n
              · have d6 : decide ((64 : Int) < n) = true := decide_eq_true h6
                have HF := HNO.out (headOk_no (by omega))
                go_enter Tryd.func116, Tryd.ntmps116
                go_wp2_with fail
                go_ret
                exact ⟨ret_bool HF.out.symm, hc0⟩
              · have d6 : decide ((64 : Int) < n) = false := decide_eq_false h6
                have HR := Lib.hid (show txnOk s b c xs = mayL xs from txnOk_rest (by rw [HN.out]; exact headOk_yes (by omega)))
                go_enter Tryd.func116, Tryd.ntmps116
                go_wp2_with fail
                go_loopw [45] (fun x wr => ∃ i : Nat, x = .int .i64 i ∧ i ≤ n ∧ Hid (∀ j, j < i → opOk (xs.getD j opZero) = true) ∧ Ch nob w wr) (fun x _ => n - (intOf x).toNat)
                case atStart => exact ⟨0, rfl, Nat.zero_le _, Lib.hid (fun j hj => by omega), hc0⟩
                case round =>
                  clear hc0
                  obtain ⟨i, rfl, hi, hst, hc⟩ := hrel
                  by_cases hlt : i < n
                  · have hd : decide ((i : Int) < (n : Int)) = true := decide_eq_true (by omega)
                    obtain ⟨ad, rfl, hx0, hx1, hx2⟩ := (HV.out.keep hc).at.2.2 i (by rw [HN.out]; exact hlt)
                    obtain ⟨x, hx⟩ : ∃ x, xs.getD i opZero = x := ⟨_, rfl⟩
                    rw [hx] at hx0 hx1 hx2
                    have HX := Lib.hid hx
                    have HI := Lib.hid (show i < xs.length from by rw [HN.out]; exact hlt)
                    clear hx
                    have hc2 : Ch nob w (wr.alloc (.cells #[.bool x.wr, .int .i64 x.key, .int .i64 x.val] 121)) := hc.alloc _
                    clear hc
                    go_wp2_with fail
                    refine (right_op x _).mono ?_
                    rintro e w1 ⟨rfl, hc1⟩
                    have hc3 := hc2.seq hc1
                    clear hx0 hx1 hx2 hc1 hc2
                    cases hok : opOk x with
                    | true =>
                      have HT := Lib.hid (show ∀ j, j < i + 1 → opOk (xs.getD j opZero) = true from fun j hj => by
                        by_cases e : j = i
                        · rw [e, HX.out]; exact hok
                        · exact hst.out j (by omega))
                      clear hok
                      go_wp2_with fail
                      go_roundw
                      case rel => exact ⟨i + 1, by go_num, by omega, HT, hc3⟩
                      case measure => simp [intOf]; omega
                    | false =>
                      have HF := Lib.hid (show txnOk s b c xs = false from by rw [HR.out]; exact may_no HI.out (by rw [HX.out]; exact hok))
                      clear hok
                      go_wp2_with fail
                      go_ret
                      exact ⟨ret_bool HF.out.symm, hc3⟩
                  · have hd : decide ((i : Int) < (n : Int)) = false := decide_eq_false (by omega)
                    have HF := Lib.hid (show txnOk s b c xs = true from by rw [HR.out]; exact may_all (fun j hj => hst.out j (by have := HN.out; omega)))
                    go_wp2_with fail
                    go_ret
                    exact ⟨ret_bool HF.out.symm, hc⟩
end Go.Proofs.YtlhfpnkfapghoaaDoor
end

section
/- Slices of transactions that are read as lists. No condition but each theorem's own. -/
set_option linter.unusedVariables false
set_option linter.unusedSimpArgs false
namespace Go.Proofs.YtlhfpnkfapghoaaDoor
open Go.RowKit Go.Maps

def txrZero : Txr := ⟨0, 0, 0, []⟩
/-- A slice value reads as this list of transactions; nil and empty ones alike. -/
def Txns (w : World) (v : Value) (hs : List Txr) : Prop :=
  ∃ A c, v = .slice A hs.length c ∧ (hs.length ≤ c ∧ hs.length ≤ 9223372036854775807) ∧ (0 < hs.length → ∃ ad, A = some ad ∧ ∀ j, j < hs.length → ∃ u, w.cell? (ad.add (j * 4)) = some (.int .i64 (hs.getD j txrZero).ses) ∧ w.cell? ⟨(ad.add (j * 4)).block, (ad.add (j * 4)).off + 1, none⟩ = some (.int .i64 (hs.getD j txrZero).beg) ∧ w.cell? ⟨(ad.add (j * 4)).block, (ad.add (j * 4)).off + 2, none⟩ = some (.int .i64 (hs.getD j txrZero).com) ∧ w.cell? ⟨(ad.add (j * 4)).block, (ad.add (j * 4)).off + 3, none⟩ = some u ∧ Opl w u (hs.getD j txrZero).ops)
theorem Txns.keep {w w' : World} {v : Value} {hs : List Txr} (h : Txns w v hs) (hc : Ch nob w w') : Txns w' v hs := by
  obtain ⟨A, c, rfl, hl, hx⟩ := h
  refine ⟨A, c, rfl, hl, fun h0 => ?_⟩
  obtain ⟨ad, rfl, hcell⟩ := hx h0
  refine ⟨ad, rfl, fun j hj => ?_⟩
  have keep : ∀ p v, w.cell? p = some v → w'.cell? p = some v := fun p v h1 => by
    have hb := World.block_lt_of_cell? w _ h1
    exact (World.cell?_of_block (hc.block _ hb (fun h => h))).trans h1
  obtain ⟨u, h1, h2, h3, h4, h5⟩ := hcell j hj
  exact ⟨u, keep _ _ h1, keep _ _ h2, keep _ _ h3, keep _ _ h4, h5.keep hc⟩
theorem Txns.shape {w : World} {v : Value} {hs : List Txr} (h : Txns w v hs) : ∃ A c, v = .slice A hs.length c := by
  obtain ⟨A, c, rfl, _, _⟩ := h; exact ⟨A, c, rfl⟩
theorem Txns.at {w : World} {A : Option Addr} {c n : Nat} {hs : List Txr} (h : Txns w (.slice A n c) hs) : n = hs.length ∧ (hs.length ≤ c ∧ hs.length ≤ 9223372036854775807) ∧ ∀ j, j < hs.length → ∃ ad u, A = some ad ∧ w.cell? (ad.add (j * 4)) = some (.int .i64 (hs.getD j txrZero).ses) ∧ w.cell? ⟨(ad.add (j * 4)).block, (ad.add (j * 4)).off + 1, none⟩ = some (.int .i64 (hs.getD j txrZero).beg) ∧ w.cell? ⟨(ad.add (j * 4)).block, (ad.add (j * 4)).off + 2, none⟩ = some (.int .i64 (hs.getD j txrZero).com) ∧ w.cell? ⟨(ad.add (j * 4)).block, (ad.add (j * 4)).off + 3, none⟩ = some u ∧ Opl w u (hs.getD j txrZero).ops := by
  obtain ⟨A', c', hv, hl, hx⟩ := h
  simp only [Value.slice.injEq] at hv
  obtain ⟨rfl, rfl, rfl⟩ := hv
  refine ⟨rfl, hl, fun j hj => ?_⟩
  obtain ⟨ad, h1, h2⟩ := hx (by omega)
  obtain ⟨u, h3⟩ := h2 j hj
  exact ⟨ad, u, h1, h3⟩
end Go.Proofs.YtlhfpnkfapghoaaDoor
end

section
/- How many operations a history has. No condition but each theorem's own. -/
set_option linter.unusedVariables false
set_option linter.unusedSimpArgs false
namespace Go.Proofs.YtlhfpnkfapghoaaDoor
open Go.RowKit Go.Maps

def countTo (hs : List Txr) : Nat → Nat
  | 0 => 0
  | i + 1 => countTo hs i + (hs.getD i txrZero).ops.length
theorem countTo_mono (hs : List Txr) {i j : Nat} (h : i ≤ j) : countTo hs i ≤ countTo hs j := by
  induction j with
  | zero => obtain rfl : i = 0 := by omega
            exact Nat.le_refl _
  | succ j ih =>
    by_cases e : i = j + 1
    · rw [e]; exact Nat.le_refl _
    · have := ih (by omega)
      show _ ≤ countTo hs j + _
      omega
set_option maxHeartbeats 1000000 in
theorem ops_history (w : World) (v : Value) (hs : List Txr) (hv : Txns w v hs) (hn : countTo hs hs.length ≤ 1000000) : Calls Tryd.prog 115 #[v] w fun e w' => e = .returned (.int .i64 (countTo hs hs.length)) ∧ Ch nob w w' := by
  obtain ⟨A, cp, rfl⟩ := hv.shape
  have HV := Lib.hid hv
  obtain ⟨_, ⟨_, hlen⟩, _⟩ := hv.at
  obtain ⟨n, hn2⟩ : ∃ n, hs.length = n := ⟨_, rfl⟩
  have HN := Lib.hid hn2
  rw [hn2] at HV hlen hn ⊢
  clear hv hn2
  go_enter Tryd.func115, Tryd.ntmps115
  go_wp2_with fail
  go_loopw [8, 3] (fun x y wr => ∃ i : Nat, x = .int .i64 i ∧ y = .int .i64 (countTo hs i) ∧ i ≤ n ∧ Ch nob w wr) (fun x _ _ => n - (intOf x).toNat)
  case atStart => exact ⟨0, rfl, rfl, Nat.zero_le _, Ch.refl _ _⟩
  case round =>
    obtain ⟨i, rfl, rfl, hi, hc⟩ := hrel
    by_cases hlt : i < n
    · have hd : decide ((i : Int) < (n : Int)) = true := decide_eq_true (by omega)
      obtain ⟨ad, u, rfl, hx0, hx1, hx2, hx3, hu⟩ := (HV.out.keep hc).at.2.2 i (by rw [HN.out]; exact hlt)
      obtain ⟨A2, c2, rfl⟩ := hu.shape
      have hs1 : countTo hs (i + 1) = countTo hs i + (hs.getD i txrZero).ops.length := rfl
      have hle := countTo_mono hs (show i + 1 ≤ n by omega)
      obtain ⟨x, hx⟩ : ∃ x, hs.getD i txrZero = x := ⟨_, rfl⟩
      rw [hx] at hx0 hx1 hx2 hx3 hs1
      obtain ⟨m, hm⟩ : ∃ m, countTo hs i = m := ⟨_, rfl⟩
      obtain ⟨l, hl⟩ : ∃ l, x.ops.length = l := ⟨_, rfl⟩
      rw [hl] at hx3 hs1
      rw [hm] at hs1 ⊢
      have hb1 : (m : Int) + (l : Int) ≤ 1000000 := by omega
      have HS := Lib.hid hs1
      have hc2 : Ch nob w (wr.alloc (.cells #[.int .i64 x.ses, .int .i64 x.beg, .int .i64 x.com, .slice A2 l c2] 118)) := hc.alloc _
      clear hx hm hl hu hs1 hle hc
      go_wp2_with fail
      go_roundw
      case rel => exact ⟨i + 1, by go_num, by rw [HS.out]; go_num, by omega, hc2⟩
      case measure => simp [intOf]; omega
    · have hd : decide ((i : Int) < (n : Int)) = false := decide_eq_false (by omega)
      obtain rfl : i = n := by omega
      go_wp2_with fail
      go_ret
      exact ⟨rfl, hc⟩
set_option maxHeartbeats 1000000 in
theorem count_ref06G (w : World) (v : Value) (hs : List Txr) (hv : Txns w v hs) (hn : countTo hs hs.length ≤ 10000000000000000) : Calls Tryd.prog 113 #[v] w fun e w' => e = .returned (.int .i64 (countTo hs hs.length)) ∧ Ch nob w w' := by
  obtain ⟨A, cp, rfl⟩ := hv.shape
  have HV := Lib.hid hv
  obtain ⟨_, ⟨_, hlen⟩, _⟩ := hv.at
  obtain ⟨n, hn2⟩ : ∃ n, hs.length = n := ⟨_, rfl⟩
  have HN := Lib.hid hn2
  rw [hn2] at HV hlen hn ⊢
  clear hv hn2
  go_enter Tryd.func113, Tryd.ntmps113
  go_wp2_with fail
  go_loopw [4, 3] (fun x y wr => ∃ i : Nat, x = .int .i64 i ∧ y = .int .i64 (countTo hs i) ∧ i ≤ n ∧ Ch nob w wr) (fun x _ _ => n - (intOf x).toNat)
  case atStart => exact ⟨0, rfl, rfl, Nat.zero_le _, Ch.refl _ _⟩
  case round =>
    obtain ⟨i, rfl, rfl, hi, hc⟩ := hrel
    by_cases hlt : i < n
    · have hd : decide ((i : Int) < (n : Int)) = true := decide_eq_true (by omega)
      obtain ⟨ad, u, rfl, hx0, hx1, hx2, hx3, hu⟩ := (HV.out.keep hc).at.2.2 i (by rw [HN.out]; exact hlt)
      obtain ⟨A2, c2, rfl⟩ := hu.shape
      have hs1 : countTo hs (i + 1) = countTo hs i + (hs.getD i txrZero).ops.length := rfl
      have hle := countTo_mono hs (show i + 1 ≤ n by omega)
      obtain ⟨x, hx⟩ : ∃ x, hs.getD i txrZero = x := ⟨_, rfl⟩
      rw [hx] at hx0 hx1 hx2 hx3 hs1
      obtain ⟨m, hm⟩ : ∃ m, countTo hs i = m := ⟨_, rfl⟩
      obtain ⟨l, hl⟩ : ∃ l, x.ops.length = l := ⟨_, rfl⟩
      rw [hl] at hx3 hs1
      rw [hm] at hs1 ⊢
      have hb1 : (m : Int) + (l : Int) ≤ 10000000000000000 := by omega
      have HS := Lib.hid hs1
      clear hx hm hl hu hs1 hle
      go_wp2_with fail
      go_roundw
      case rel => exact ⟨i + 1, by go_num, by rw [HS.out]; go_num, by omega, hc⟩
      case measure => simp [intOf]; omega
    · have hd : decide ((i : Int) < (n : Int)) = false := decide_eq_false (by omega)
      obtain rfl : i = n := by omega
      go_wp2_with fail
      go_ret
      exact ⟨rfl, hc⟩
theorem count_ref06 (w : World) (v : Value) (hs : List Txr) (hv : Txns w v hs) (hn : countTo hs hs.length ≤ 1000000) : Calls Tryd.prog 113 #[v] w fun e w' => e = .returned (.int .i64 (countTo hs hs.length)) ∧ Ch nob w w' := count_ref06G w v hs hv (Nat.le_trans hn (by decide))
end Go.Proofs.YtlhfpnkfapghoaaDoor
end

section
/- Which operations may be, by the document. No condition but each theorem's own. -/
set_option linter.unusedVariables false
set_option linter.unusedSimpArgs false
namespace Go.Proofs.YtlhfpnkfapghoaaDoor
open Go.RowKit Go.Maps

set_option maxHeartbeats 1000000 in
theorem mayOp_ref06 (o : Opn) (w : World) : Calls Tryd.prog 142 #[.agg #[.bool o.wr, .int .i64 o.key, .int .i64 o.val]] w fun e w' => e = .returned (.bool (opOk o)) ∧ Ch nob w w' := by
  obtain ⟨hb, hc, _⟩ := one_new w #[.bool o.wr, .int .i64 o.key, .int .i64 o.val] 121
  obtain ⟨ow, ok, ov⟩ := o
  have HE := Lib.hid (show opOk ⟨ow, ok, ov⟩ = (decide (0 ≤ ok) && decide (ok < 64) && decide (0 ≤ ov) && decide (ov ≤ 2147483647) && (!ow || decide (0 < ov))) from rfl)
  by_cases h1 : ok < 0
  · have d1 : decide (ok < 0) = true := decide_eq_true h1
    go_enter Tryd.func142, Tryd.ntmps142
    go_wp2_with fail
    go_ret
    exact ⟨ret_bool (by rw [HE.out, decide_eq_false (show ¬ 0 ≤ ok by omega)]; rfl), hc⟩
  · have d1 : decide (ok < 0) = false := decide_eq_false h1
    by_cases h2 : (63 : Int) < ok
    · have d2 : decide ((63 : Int) < ok) = true := decide_eq_true h2
      go_enter Tryd.func142, Tryd.ntmps142
      go_wp2_with fail
      go_ret
      exact ⟨ret_bool (by rw [HE.out, decide_eq_false (show ¬ ok < 64 by omega)]; simp), hc⟩
    · have d2 : decide ((63 : Int) < ok) = false := decide_eq_false h2
      by_cases h3 : ov < 0
      · have d3 : decide (ov < 0) = true := decide_eq_true h3
        go_enter Tryd.func142, Tryd.ntmps142
        go_wp2_with fail
        go_ret
        exact ⟨ret_bool (by rw [HE.out, decide_eq_false (show ¬ 0 ≤ ov by omega)]; simp), hc⟩
      · have d3 : decide (ov < 0) = false := decide_eq_false h3
        by_cases h4 : (2147483647 : Int) < ov
        · have d4 : decide ((2147483647 : Int) < ov) = true := decide_eq_true h4
          go_enter Tryd.func142, Tryd.ntmps142
          go_wp2_with fail
          go_ret
          exact ⟨ret_bool (by rw [HE.out, decide_eq_false (show ¬ ov ≤ 2147483647 by omega)]; simp), hc⟩
        · have d4 : decide ((2147483647 : Int) < ov) = false := decide_eq_false h4
          have HF := Lib.hid (show opOk ⟨ow, ok, ov⟩ = (!ow || decide (0 < ov)) from by
            rw [HE.out, decide_eq_true (show 0 ≤ ok by omega), decide_eq_true (show ok < 64 by omega), decide_eq_true (show 0 ≤ ov by omega), decide_eq_true (show ov ≤ 2147483647 by omega)]; rfl)
          cases ow with
          | false =>
            go_enter Tryd.func142, Tryd.ntmps142
            go_wp2_with fail
            go_ret
            exact ⟨ret_bool (by rw [HF.out]; rfl), hc⟩
          | true =>
            by_cases h5 : (0 : Int) < ov
            · have d5 : (ov != 0) = true := by simp; omega
              go_enter Tryd.func142, Tryd.ntmps142
              go_wp2_with fail
              go_ret
              exact ⟨ret_bool (by rw [HF.out]; simp; omega), hc⟩
            · have d5 : (ov != 0) = false := by rw [show ov = 0 by omega]; rfl
              go_enter Tryd.func142, Tryd.ntmps142
              go_wp2_with fail
              go_ret
              exact ⟨ret_bool (by rw [HF.out]; simp; omega), hc⟩
end Go.Proofs.YtlhfpnkfapghoaaDoor
end

section
/- Which transactions may be, by the document. No condition but each theorem's own. -/
set_option linter.unusedVariables false
set_option linter.unusedSimpArgs false
namespace Go.Proofs.YtlhfpnkfapghoaaDoor
open Go.RowKit Go.Maps

set_option maxHeartbeats 4000000 in
theorem mayTxn_ref06 (w : World) (v : Value) (xs : List Opn) (s b c : Int) (hv : Opl w v xs) : Calls Tryd.prog 133 #[.agg #[.int .i64 s, .int .i64 b, .int .i64 c, v]] w fun e w' => e = .returned (.bool (txnOk s b c xs)) ∧ Ch nob w w' := by
  obtain ⟨A, cp, rfl⟩ := hv.shape
  have HV := Lib.hid hv
  obtain ⟨n, hn2⟩ : ∃ n, xs.length = n := ⟨_, rfl⟩
  have HN := Lib.hid hn2
  rw [hn2] at HV ⊢
  obtain ⟨hb0, hc0, _⟩ := one_new w #[.int .i64 s, .int .i64 b, .int .i64 c, .slice A n cp] 118
  have hno : headOk s b c n = false → Hid (txnOk s b c xs = false) := fun h => Lib.hid (txnOk_head (by rw [HN.out]; exact h))
  have HNO := Lib.hid hno
  have HB0 := Lib.hid hb0
  clear hv hn2 hno hb0
  by_cases h0 : s < 0
  · have d0 : decide (s < 0) = true := decide_eq_true h0
    have HF := HNO.out (headOk_no (by omega))
    go_enter Tryd.func133, Tryd.ntmps133
    go_wp2_with fail
    go_ret
    exact ⟨ret_bool HF.out.symm, hc0⟩
  · have d0 : decide (s < 0) = false := decide_eq_false h0
    by_cases h1 : (63 : Int) < s
    · have d1 : decide ((63 : Int) < s) = true := decide_eq_true h1
      have HF := HNO.out (headOk_no (by omega))
      go_enter Tryd.func133, Tryd.ntmps133
      go_wp2_with fail
      go_ret
      exact ⟨ret_bool HF.out.symm, hc0⟩
    · have d1 : decide ((63 : Int) < s) = false := decide_eq_false h1
      by_cases h2 : b < 0
      · have d2 : decide (b < 0) = true := decide_eq_true h2
        have HF := HNO.out (headOk_no (by omega))
        go_enter Tryd.func133, Tryd.ntmps133
        go_wp2_with fail
        go_ret
        exact ⟨ret_bool HF.out.symm, hc0⟩
      · have d2 : decide (b < 0) = false := decide_eq_false h2
        by_cases h3 : c ≤ b
        · have d3 : decide (c ≤ b) = true := decide_eq_true h3
          have HF := HNO.out (headOk_no (by omega))
          go_enter Tryd.func133, Tryd.ntmps133
          go_wp2_with fail
          go_ret
          exact ⟨ret_bool HF.out.symm, hc0⟩
        · have d3 : decide (c ≤ b) = false := decide_eq_false h3
          by_cases h4 : (2147483647 : Int) < c
          · have d4 : decide ((2147483647 : Int) < c) = true := decide_eq_true h4
            have HF := HNO.out (headOk_no (by omega))
            go_enter Tryd.func133, Tryd.ntmps133
            go_wp2_with fail
            go_ret
            exact ⟨ret_bool HF.out.symm, hc0⟩
          · have d4 : decide ((2147483647 : Int) < c) = false := decide_eq_false h4
            by_cases h5 : (n : Int) < 1
            · have d5 : decide ((n : Int) < 1) = true := decide_eq_true h5
              have HF := HNO.out (headOk_no (by omega))
              go_enter Tryd.func133, Tryd.ntmps133
              go_wp2_with fail
              go_ret
              exact ⟨ret_bool HF.out.symm, hc0⟩
            · have d5 : decide ((n : Int) < 1) = false := decide_eq_false h5
              by_cases h6 : (64 : Int) < n
              · have d6 : decide ((64 : Int) < n) = true := decide_eq_true h6
                have HF := HNO.out (headOk_no (by omega))
                go_enter Tryd.func133, Tryd.ntmps133
                go_wp2_with fail
                go_ret
                exact ⟨ret_bool HF.out.symm, hc0⟩
              · have d6 : decide ((64 : Int) < n) = false := decide_eq_false h6
                have HR := Lib.hid (show txnOk s b c xs = mayL xs from txnOk_rest (by rw [HN.out]; exact headOk_yes (by omega)))
                go_enter Tryd.func133, Tryd.ntmps133
                go_wp2_with fail
                go_loopw [3] (fun x wr => ∃ i : Nat, x = .int .i64 i ∧ i ≤ n ∧ Hid (∀ j, j < i → opOk (xs.getD j opZero) = true) ∧ Hid (Blk wr w.heap.size #[.int .i64 s, .int .i64 b, .int .i64 c, .slice A n cp] 118) ∧ Ch nob w wr) (fun x _ => n - (intOf x).toNat)
                case atStart => exact ⟨0, rfl, Nat.zero_le _, Lib.hid (fun j hj => by omega), HB0, hc0⟩
                case round =>
                  clear hc0
                  obtain ⟨i, rfl, hi, hst, hbw, hc⟩ := hrel
                  have hp3 := hbw.out.cell (i := 3) (v := .slice A n cp) rfl
                  by_cases hlt : i < n
                  · have hd : decide ((i : Int) < (n : Int)) = true := decide_eq_true (by omega)
                    obtain ⟨ad, rfl, hx0, hx1, hx2⟩ := (HV.out.keep hc).at.2.2 i (by rw [HN.out]; exact hlt)
                    obtain ⟨x, hx⟩ : ∃ x, xs.getD i opZero = x := ⟨_, rfl⟩
                    rw [hx] at hx0 hx1 hx2
                    have HX := Lib.hid hx
                    have HI := Lib.hid (show i < xs.length from by rw [HN.out]; exact hlt)
                    clear hx
                    go_wp2_with fail
                    refine (mayOp_ref06 x _).mono ?_
                    rintro e w1 ⟨rfl, hc1⟩
                    have hc3 := hc.seq hc1
                    have hbw2 := Lib.hid (hbw.out.ch hc1 (fun h => h))
                    clear hx0 hx1 hx2 hc1 hc hp3
                    cases hok : opOk x with
                    | true =>
                      have HT := Lib.hid (show ∀ j, j < i + 1 → opOk (xs.getD j opZero) = true from fun j hj => by
                        by_cases e : j = i
                        · rw [e, HX.out]; exact hok
                        · exact hst.out j (by omega))
                      clear hok
                      go_wp2_with fail
                      go_roundw
                      case rel => exact ⟨i + 1, by go_num, by omega, HT, hbw2, hc3⟩
                      case measure => simp [intOf]; omega
                    | false =>
                      have HF := Lib.hid (show txnOk s b c xs = false from by rw [HR.out]; exact may_no HI.out (by rw [HX.out]; exact hok))
                      clear hok
                      go_wp2_with fail
                      go_ret
                      exact ⟨ret_bool HF.out.symm, hc3⟩
                  · have hd : decide ((i : Int) < (n : Int)) = false := decide_eq_false (by omega)
                    have HF := Lib.hid (show txnOk s b c xs = true from by rw [HR.out]; exact may_all (fun j hj => hst.out j (by have := HN.out; omega)))
                    go_wp2_with fail
                    go_ret
                    exact ⟨ret_bool HF.out.symm, hc⟩
end Go.Proofs.YtlhfpnkfapghoaaDoor
end

section
/- A slice of operations that came in reads as a list. No condition. -/
set_option linter.unusedVariables false
set_option linter.unusedSimpArgs false
namespace Go.Proofs.YtlhfpnkfapghoaaDoor
open Go.RowKit Go.ChangeShapes Go.WideShapes Go.Deep

theorem under_ops : Tryd.prog.underlying 116 = some (.slice 121) := by kernel_rfl
set_option maxRecDepth 100000 in
theorem ops_open {H : Type} {enc : TypeId × Value → H} {W : World} {base : Nat} {spare : Nat → Bool} {held : Bool} {fuel : Nat} {A : Option Addr} {len cap : Nat} {x : DataW H × List MemPlace}
    (h : DataW.trod enc Tryd.prog W base spare held fuel 116 [.slice A len cap] = some x) : ∃ xs, Opl W (.slice A len cap) xs ∧ KeysOk xs := by
  rcases open_slice under_ops h with ⟨hcs, _⟩ | ⟨a, l, c, m, n, D, Pl, hcs, _, hl, hm, hmm, _, hx⟩
  · simp at hcs
    obtain ⟨rfl, rfl, rfl⟩ := hcs
    exact ⟨[], Opl.nil _ _ _, fun i hi => by simp at hi⟩
  · simp at hcs
    obtain ⟨rfl, rfl, rfl⟩ := hcs
    have hlm : len ≤ m := by rw [hmm]; split <;> omega
    have cb : Tryd.prog.cellsOf 4 = 1 := by kernel_rfl
    have ci : Tryd.prog.cellsOf 3 = 1 := by kernel_rfl
    have ub : Tryd.prog.underlying 4 = some .bool := by kernel_rfl
    have ce : Tryd.prog.cellsOf 121 = 3 := by kernel_rfl
    have each : ∀ i, i < len → ∃ y : Opn, W.cell? (a.add (i * 3)) = some (.bool y.wr) ∧ W.cell? (a.add (i * 3 + 1)) = some (.int .i64 y.key) ∧ W.cell? (a.add (i * 3 + 2)) = some (.int .i64 y.val) ∧ (Lit.int .i64 y.key).wf = true := by
      intro i hi
      obtain ⟨cs', h1, h2⟩ := hx i (by omega)
      rw [ce] at h1
      obtain ⟨_, hlen, hcell⟩ := World.cells?_some h1
      obtain ⟨y0, y1, y2, k, _, hxl, g0, g1, g2⟩ := trod_struct3 Tryd.underlying121 h2
      match cs', hlen with
      | [v0, v1, v2], _ =>
        simp [cb, ci] at g0 g1 g2
        have e0 := hcell 0 (by omega)
        have e1 := hcell 1 (by omega)
        have e2 := hcell 2 (by omega)
        rw [add_add] at e0 e1 e2
        obtain ⟨b, hb, _⟩ := DataW.trod_bool ub g0
        obtain ⟨z1, hz1, _, hw1⟩ := DataW.trod_int under_int g1
        obtain ⟨z2, hz2, _, _⟩ := DataW.trod_int under_int g2
        simp at hb hz1 hz2 e0 e1 e2
        subst hb hz1 hz2
        exact ⟨⟨b, z1, z2⟩, e0, e1, e2, hw1⟩
    obtain ⟨Y, hY⟩ := @choose_lt Opn ⟨opZero⟩ len _ each
    have hg : ∀ j, j < len → ((List.range len).map Y).getD j opZero = Y j := fun j hj => by
      rw [List.getD_eq_getElem?_getD, List.getElem?_map, List.getElem?_range hj]; rfl
    refine ⟨(List.range len).map Y, ⟨some a, cap, by simp, by simp; unfold maxLen at hm; omega, fun _ => ⟨a, rfl, fun j hj => ?_⟩⟩, fun j hj => ?_⟩
    · have hj2 : j < len := by simpa using hj
      obtain ⟨e0, e1, e2, _⟩ := hY j hj2
      rw [hg j hj2, add_next _ _ _ (by omega), add_next _ _ _ (by omega)]
      exact ⟨e0, e1, e2⟩
    · have hj2 : j < len := by simpa using hj
      rw [hg j hj2]
      exact (hY j hj2).2.2.2
end Go.Proofs.YtlhfpnkfapghoaaDoor
end

section
/- Who writes each value of a history: in plain words. No condition but each theorem's own. -/
set_option linter.unusedVariables false
set_option linter.unusedSimpArgs false
namespace Go.Proofs.YtlhfpnkfapghoaaDoor
open Go.RowKit Go.Maps

/-- The keys and values of operations are ints. -/
def OpsOk (xs : List Opn) : Prop := KeysOk xs ∧ ∀ i, i < xs.length → (Lit.int .i64 (xs.getD i opZero).val).wf = true
def TxrOk (t : Txr) : Prop := OpsOk t.ops ∧ (Lit.int .i64 t.ses).wf = true ∧ (Lit.int .i64 t.beg).wf = true ∧ (Lit.int .i64 t.com).wf = true
def TxnsOk (hs : List Txr) : Prop := ∀ i, i < hs.length → TxrOk (hs.getD i txrZero)
/-- The cells as they stand later on; the operations as they stood. -/
theorem Txns.both {w w' : World} {A : Option Addr} {c n : Nat} {hs : List Txr} (h : Txns w (.slice A n c) hs) (hc : Ch nob w w') : ∀ j, j < hs.length → ∃ ad u, A = some ad ∧ w'.cell? (ad.add (j * 4)) = some (.int .i64 (hs.getD j txrZero).ses) ∧ w'.cell? ⟨(ad.add (j * 4)).block, (ad.add (j * 4)).off + 1, none⟩ = some (.int .i64 (hs.getD j txrZero).beg) ∧ w'.cell? ⟨(ad.add (j * 4)).block, (ad.add (j * 4)).off + 2, none⟩ = some (.int .i64 (hs.getD j txrZero).com) ∧ w'.cell? ⟨(ad.add (j * 4)).block, (ad.add (j * 4)).off + 3, none⟩ = some u ∧ Opl w u (hs.getD j txrZero).ops := by
  intro j hj
  obtain ⟨_, _, hx⟩ := h.at
  obtain ⟨ad, u, h0, h1, h2, h3, h4, h5⟩ := hx j hj
  have keep : ∀ p v, w.cell? p = some v → w'.cell? p = some v := fun p v h1 => by
    have hb := World.block_lt_of_cell? w _ h1
    exact (World.cell?_of_block (hc.block _ hb (fun h => h))).trans h1
  exact ⟨ad, u, h0, keep _ _ h1, keep _ _ h2, keep _ _ h3, keep _ _ h4, h5⟩
/-- Who writes a value, to which key, and whether it is the last one. -/
structure Wr where
  txn : Int
  key : Int
  last : Bool
  deriving DecidableEq
def wrVal (o : Wr) : Value := .agg #[.int .i64 o.txn, .int .i64 o.key, .bool o.last]
def wrZero : Wr := ⟨0, 0, false⟩
abbrev WM := Int → Option Wr
def wmF (M : WM) : Int → Option Value := fun k => (M k).map wrVal
def putW (M : WM) (k : Int) (x : Wr) : WM := fun v => if v = k then some x else M v
theorem wmF_put (M : WM) (k : Int) (x : Wr) : putM (wmF M) k (wrVal x) = wmF (putW M k x) := by
  funext v
  unfold putM wmF putW
  split <;> rfl
/-- The first j operations of transaction t, written down; none: a value was there. -/
def opsF (t : Nat) (xs : List Opn) (M : WM) : Nat → Option WM
  | 0 => some M
  | j + 1 => (opsF t xs M j).bind fun N => if (xs.getD j opZero).wr then (if (N (xs.getD j opZero).val).isSome then none else some (putW N (xs.getD j opZero).val ⟨t, (xs.getD j opZero).key, false⟩)) else some N
theorem opsF_read {t : Nat} {xs : List Opn} {M N : WM} {j : Nat} (h : opsF t xs M j = some N) {x : Opn} (hx : xs.getD j opZero = x) (hw : x.wr = false) : opsF t xs M (j + 1) = some N := by
  unfold opsF; rw [h, hx]; simp [hw]
theorem opsF_new {t : Nat} {xs : List Opn} {M N : WM} {j : Nat} (h : opsF t xs M j = some N) {x : Opn} (hx : xs.getD j opZero = x) (hw : x.wr = true) (hm : N x.val = none) : opsF t xs M (j + 1) = some (putW N x.val ⟨t, x.key, false⟩) := by
  unfold opsF; rw [h, hx]; simp [hw, hm]
theorem opsF_twice {t : Nat} {xs : List Opn} {M N : WM} {j : Nat} (h : opsF t xs M j = some N) {x : Opn} (hx : xs.getD j opZero = x) (hw : x.wr = true) {y : Wr} (hm : N x.val = some y) : opsF t xs M (j + 1) = none := by
  unfold opsF; rw [h, hx]; simp [hw, hm]
theorem opsF_none {t : Nat} {xs : List Opn} {M : WM} {i j : Nat} (hij : i ≤ j) (h : opsF t xs M i = none) : opsF t xs M j = none := by
  induction j with
  | zero => obtain rfl : i = 0 := by omega
            exact h
  | succ j ih =>
    by_cases e : i = j + 1
    · rw [← e]; exact h
    · unfold opsF; rw [ih (by omega)]; rfl
theorem putW_some {N : WM} {k v : Int} {x : Wr} (h : (N v).isSome = true) : (putW N k x v).isSome = true := by
  unfold putW; split
  · rfl
  · exact h
theorem opsF_has {t : Nat} {xs : List Opn} {M : WM} : ∀ {l : Nat} {N : WM}, opsF t xs M l = some N → ∀ j, j < l → (xs.getD j opZero).wr = true → (N (xs.getD j opZero).val).isSome = true
  | 0, _, _, j, hj, _ => by omega
  | l + 1, N, h, j, hj, hw => by
    unfold opsF at h
    cases h0 : opsF t xs M l with
    | none => rw [h0] at h; cases h
    | some N0 =>
      rw [h0, Option.bind_some] at h
      by_cases e : j = l
      · subst e
        rw [if_pos hw] at h
        split at h
        · cases h
        · cases h; unfold putW; rw [if_pos rfl]; rfl
      · have ih := opsF_has h0 j (by omega) hw
        split at h
        · split at h
          · cases h
          · cases h; exact putW_some ih
        · cases h; exact ih
/-- Some values are marked as last ones. -/
def markF (M : WM) (p : Int → Bool) : WM := fun v => if p v then some { (M v).getD wrZero with last := true } else M v
theorem markF_none (M : WM) : markF M (fun _ => false) = M := by
  funext v; simp [markF]
theorem markF_step (M : WM) (p : Int → Bool) (k : Int) : putW (markF M p) k { ((markF M p) k).getD wrZero with last := true } = markF M (fun v => p v || v == k) := by
  funext v
  unfold putW markF
  by_cases e : v = k
  · subst e
    by_cases h : p v <;> simp [h]
  · simp [e]
/-- Is a value the last one that these operations write to its key? -/
def isLast (xs : List Opn) (v : Int) : Bool := xs.any fun o => o.wr && o.val == v && (match lastW xs xs.length o.key with | some y => y.wr == o.wr && y.key == o.key && y.val == o.val | none => false)
theorem opn_ext {x y : Opn} (h1 : x.wr = y.wr) (h2 : x.key = y.key) (h3 : x.val = y.val) : x = y := by
  obtain ⟨a, b, c⟩ := x; obtain ⟨a2, b2, c2⟩ := y
  simp at h1 h2 h3
  rw [h1, h2, h3]
theorem lastW_mem {xs : List Opn} {k : Int} {o : Opn} : ∀ {i}, i ≤ xs.length → lastW xs i k = some o → o ∈ xs ∧ o.wr = true ∧ o.key = k
  | 0, _, h => by cases h
  | i + 1, hi, h => by
    unfold lastW at h
    split at h
    · rename_i c
      cases h
      refine ⟨?_, c⟩
      rw [List.getD_eq_getElem?_getD, List.getElem?_eq_getElem (by omega)]
      exact List.getElem_mem _
    · exact lastW_mem (by omega) h
theorem isLast_iff (xs : List Opn) (v : Int) : isLast xs v = true ↔ ∃ o, o.val = v ∧ lastW xs xs.length o.key = some o := by
  unfold isLast
  rw [List.any_eq_true]
  constructor
  · rintro ⟨o, ho, h⟩
    simp only [Bool.and_eq_true, beq_iff_eq] at h
    obtain ⟨⟨hw, hv⟩, h⟩ := h
    cases hl : lastW xs xs.length o.key with
    | none => rw [hl] at h; cases h
    | some y =>
      rw [hl] at h
      simp only [Bool.and_eq_true, beq_iff_eq] at h
      exact ⟨o, hv, by rw [hl, opn_ext h.1.1 h.1.2 h.2]⟩
  · rintro ⟨o, hv, h⟩
    have h2 := lastW_mem (Nat.le_refl _) h
    exact ⟨o, h2.1, by rw [h]; simp [h2.2.1, hv]⟩
theorem isLast_of {xs ys : List Opn} (h : ∀ x, x ∈ ys ↔ lastW xs xs.length x.key = some x) : (fun v => ys.any fun o => v == o.val) = isLast xs := by
  funext v
  rw [Bool.eq_iff_iff, isLast_iff, List.any_eq_true]
  constructor
  · rintro ⟨o, h1, h2⟩
    exact ⟨o, (beq_iff_eq.1 h2).symm, (h o).1 h1⟩
  · rintro ⟨o, h1, h2⟩
    exact ⟨o, (h o).2 h2, by rw [h1]; exact beq_self_eq_true v⟩
theorem mark_take (M : WM) (ys : List Opn) (j : Nat) (hj : j < ys.length) (y : Opn) (hy : ys.getD j opZero = y) : putW (markF M fun v => (ys.take j).any fun o => v == o.val) y.val { ((markF M fun v => (ys.take j).any fun o => v == o.val) y.val).getD wrZero with last := true } = markF M fun v => (ys.take (j + 1)).any fun o => v == o.val := by
  rw [markF_step]
  congr 1
  funext v
  rw [List.take_add_one, List.any_append]
  rw [List.getD_eq_getElem?_getD, List.getElem?_eq_getElem hj, Option.getD_some] at hy
  rw [List.getElem?_eq_getElem hj, hy]
  simp
def txnF (t : Nat) (xs : List Opn) (M : WM) : Option WM := (opsF t xs M xs.length).map fun N => markF N (isLast xs)
/-- The first i transactions, written down. -/
def histF (hs : List Txr) : Nat → Option WM
  | 0 => some fun _ => none
  | i + 1 => (histF hs i).bind (txnF i (hs.getD i txrZero).ops)
theorem histF_none {hs : List Txr} {i j : Nat} (hij : i ≤ j) (h : histF hs i = none) : histF hs j = none := by
  induction j with
  | zero => obtain rfl : i = 0 := by omega
            exact h
  | succ j ih =>
    by_cases e : i = j + 1
    · rw [← e]; exact h
    · unfold histF; rw [ih (by omega)]; rfl
theorem histF_twice {hs : List Txr} {i j : Nat} {M : WM} (h : histF hs i = some M) {xs : List Opn} (hx : (hs.getD i txrZero).ops = xs) (hj : j ≤ xs.length) (h2 : opsF i xs M j = none) (hi : i < hs.length) : histF hs hs.length = none := by
  refine histF_none (i := i + 1) (by omega) ?_
  unfold histF
  rw [h, hx]
  show txnF i xs M = none
  unfold txnF
  rw [opsF_none hj h2]
  rfl
theorem histF_step {hs : List Txr} {i : Nat} {M N : WM} (h : histF hs i = some M) {xs : List Opn} (hx : (hs.getD i txrZero).ops = xs) (h2 : opsF i xs M xs.length = some N) : histF hs (i + 1) = some (markF N (isLast xs)) := by
  unfold histF
  rw [h, hx]
  show txnF i xs M = _
  unfold txnF
  rw [h2]
  rfl
/-- How many of the first j operations are writes. -/
def wrN (xs : List Opn) : Nat → Nat
  | 0 => 0
  | j + 1 => wrN xs j + if (xs.getD j opZero).wr then 1 else 0
theorem wrN_le (xs : List Opn) : ∀ j, wrN xs j ≤ j
  | 0 => Nat.le_refl _
  | j + 1 => by have := wrN_le xs j; unfold wrN; split <;> omega
def wrT (hs : List Txr) : Nat → Nat
  | 0 => 0
  | i + 1 => wrT hs i + wrN (hs.getD i txrZero).ops (hs.getD i txrZero).ops.length
theorem wrT_le (hs : List Txr) : ∀ i, wrT hs i ≤ countTo hs i
  | 0 => Nat.le_refl _
  | i + 1 => by have := wrT_le hs i; have := wrN_le (hs.getD i txrZero).ops (hs.getD i txrZero).ops.length; unfold wrT countTo; omega
end Go.Proofs.YtlhfpnkfapghoaaDoor
end

section
/- Who writes each value of a history, by the program (history.Writes). No condition but each theorem's own. -/
set_option linter.unusedVariables false
set_option linter.unusedSimpArgs false
namespace Go.Proofs.YtlhfpnkfapghoaaDoor
open Go.RowKit Go.Maps

theorem under_miw : Tryd.prog.underlying 112 = some (.map 3 163) := by kernel_rfl
theorem zero_w (w : World) : (zeroValue 163).run Tryd.prog w = .ok (.agg #[.int .i64 0, .int .i64 0, .bool false]) w := by kernel_rfl
/-- What Writes hands back: a map of a block of its own, and whether no value was there twice. -/
def RetWr (w : World) (hs : List Txr) (e : Ending) (w' : World) : Prop :=
  ((∃ b N, e = .returned (.tuple #[.map (some b), .bool true]) ∧ histF hs hs.length = some N ∧ IMap Tryd.prog 3 w' b (wrT hs hs.length) (wmF N)) ∨ (∃ b, e = .returned (.tuple #[.map (some b), .bool false]) ∧ histF hs hs.length = none)) ∧ Ch nob w w'
theorem getD_wr (M : WM) (k : Int) : ((wmF M) k).getD (wrVal wrZero) = wrVal ((M k).getD wrZero) := by
  unfold wmF; cases M k <;> rfl

set_option maxRecDepth 100000 in
set_option maxHeartbeats 4000000 in
theorem writes_history (w : World) (v : Value) (hs : List Txr) (hv : Txns w v hs) (hk : TxnsOk hs) (hn : countTo hs hs.length ≤ 1000000) : Calls Tryd.prog 71 #[v] w (RetWr w hs) := by
  obtain ⟨A, cp, rfl⟩ := hv.shape
  have HV := Lib.hid hv
  have HK := Lib.hid hk
  have hmm := @run_makeMap Tryd.prog
  obtain ⟨_, ⟨_, hlen⟩, _⟩ := hv.at
  obtain ⟨n, hn2⟩ : ∃ n, hs.length = n := ⟨_, rfl⟩
  have HN := Lib.hid hn2
  rw [hn2] at HV hlen hn
  have HC := Lib.hid hn
  rw [hn2]
  have hm0 : Hid (IMap Tryd.prog 3 (w.alloc (.map #[] 0)) w.heap.size (wrT hs 0) (wmF fun _ => none)) := Lib.hid (IMap.made Tryd.prog 3 w)
  have hc0 : Ch nob w (w.alloc (.map #[] 0)) := (Ch.refl _ _).alloc _
  have hz0 : w.heap.size + 1 ≤ (w.alloc (.map #[] 0)).heap.size := by simp
  clear hv hk hn2 hn
  go_enter Tryd.func71, Tryd.ntmps71
  go_wp2_with fail
  go_loopw [17] (fun x wr => ∃ (i : Nat) (M : WM), x = .int .i64 i ∧ i ≤ n ∧ Hid (histF hs i = some M) ∧ Hid (IMap Tryd.prog 3 wr w.heap.size (wrT hs i) (wmF M)) ∧ w.heap.size + 1 ≤ wr.heap.size ∧ Ch nob w wr) (fun x _ => n - (intOf x).toNat)
  case atStart => exact ⟨0, _, rfl, Nat.zero_le _, Lib.hid rfl, hm0, hz0, hc0⟩
  case round =>
    clear hm0 hc0 hmm hz0
    obtain ⟨i, M, rfl, hi, hM, hm, hz, hc⟩ := hrel
    by_cases hlt : i < n
    · have hd : decide ((i : Int) < (n : Int)) = true := decide_eq_true (by omega)
      obtain ⟨ad, u, rfl, hx0, hx1, hx2, hx3, hu⟩ := HV.out.both hc i (by rw [HN.out]; exact hlt)
      have hok := (HK.out i (by rw [HN.out]; exact hlt)).1
      have hle := countTo_mono hs (show i + 1 ≤ n by omega)
      have hcs : countTo hs (i + 1) = countTo hs i + (hs.getD i txrZero).ops.length := rfl
      have hws : wrT hs (i + 1) = wrT hs i + wrN (hs.getD i txrZero).ops (hs.getD i txrZero).ops.length := rfl
      have hwl := wrT_le hs i
      have HI := Lib.hid (show i < hs.length from by rw [HN.out]; exact hlt)
      obtain ⟨T, hT⟩ : ∃ T, hs.getD i txrZero = T := ⟨_, rfl⟩
      rw [hT] at hx0 hx1 hx2 hu hok hcs hws
      have HX := Lib.hid (show (hs.getD i txrZero).ops = T.ops from by rw [hT])
      obtain ⟨ts, tb, tc, xs⟩ := T
      obtain ⟨A2, c2, rfl⟩ := hu.shape
      obtain ⟨l, hl⟩ : ∃ l, xs.length = l := ⟨_, rfl⟩
      have HL := Lib.hid hl
      dsimp only at hx0 hx1 hx2 hu hok hcs hws HX
      have hb1 : wrT hs i + l ≤ 1000000 := by have := HC.out; omega
      have HU := Lib.hid hu
      have HO := Lib.hid hok
      rw [hl] at hx3 HU hws
      have HWS := Lib.hid hws
      have hb0 := Blk.new wr #[.int .i64 ts, .int .i64 tb, .int .i64 tc, .slice A2 l c2] 118
      have hcA : Ch nob wr (wr.alloc (.cells #[.int .i64 ts, .int .i64 tb, .int .i64 tc, .slice A2 l c2] 118)) := (Ch.refl _ _).alloc _
      have hm2 := Lib.hid (hm.out.keep hcA)
      have hc2 := hc.seq hcA
      have HB := Lib.hid hb0
      clear hT hu hok hle hcs hws hwl hl hm hc hb0 hcA
      go_wp2_with fail
      obtain ⟨gt, hgt⟩ : ∃ gt, wr.heap.size = gt := ⟨_, rfl⟩
      have hzt : w.heap.size + 1 ≤ gt := by omega
      obtain ⟨wo, hwo⟩ : ∃ wo, wr.alloc (.cells #[.int .i64 ts, .int .i64 tb, .int .i64 tc, .slice A2 l c2] 118) = wo := ⟨_, rfl⟩
      have hzo : gt + 1 ≤ wo.heap.size := by rw [← hwo, ← hgt]; simp
      rw [hwo] at hm2 hc2 HB ⊢
      rw [hgt] at HB ⊢
      clear hwo hgt hx0 hx1 hx2 hx3 hz
      go_loopw [25] (fun x wr => ∃ (j : Nat) (N : WM), x = .int .i64 j ∧ j ≤ l ∧ Hid (opsF i xs M j = some N) ∧ Hid (IMap Tryd.prog 3 wr w.heap.size (wrT hs i + wrN xs j) (wmF N)) ∧ gt + 1 ≤ wr.heap.size ∧ Hid (Blk wr gt #[.int .i64 ts, .int .i64 tb, .int .i64 tc, .slice A2 l c2] 118) ∧ Ch nob w wr) (fun x _ => l - (intOf x).toNat)
      case atStart => exact ⟨0, M, rfl, Nat.zero_le _, Lib.hid rfl, hm2, hzo, HB, hc2⟩
      case round =>
        clear hm2 hzo HB hc2
        obtain ⟨j, N, rfl, hj, hN, hm, hz, hb, hc⟩ := hrel
        by_cases hlt2 : j < l
        · have hd2 : decide ((j : Int) < (l : Int)) = true := decide_eq_true (by omega)
          obtain ⟨ad2, rfl, hx0, hx1, hx2⟩ := (HU.out.keep hc).at.2.2 j (by rw [HL.out]; exact hlt2)
          have hwf := HO.out.2 j (by rw [HL.out]; exact hlt2)
          have hwl := wrN_le xs j
          have hws : wrN xs (j + 1) = wrN xs j + if (xs.getD j opZero).wr then 1 else 0 := rfl
          obtain ⟨x, hx⟩ : ∃ x, xs.getD j opZero = x := ⟨_, rfl⟩
          rw [hx] at hx0 hx1 hx2 hwf hws
          have HX2 := Lib.hid hx
          have HW2 := Lib.hid hws
          obtain ⟨xw, xk, xv⟩ := x
          have hcB : Ch nob wr (wr.alloc (.cells #[.bool xw, .int .i64 xk, .int .i64 xv] 121)) := (Ch.refl _ _).alloc _
          have hm1 := hm.out.keep hcB
          have hb1 := Lib.hid (hb.out.ch hcB (fun h => h))
          have hc1 := hc.seq hcB
          clear hx hws hm hb hc hcB
          cases xw with
          | false =>
            have hN2 := Lib.hid (opsF_read hN.out HX2.out rfl)
            have hm3 : Hid (IMap Tryd.prog 3 (wr.alloc (.cells #[.bool false, .int .i64 xk, .int .i64 xv] 121)) w.heap.size (wrT hs i + wrN xs (j + 1)) (wmF N)) := Lib.hid (by rw [HW2.out]; exact hm1)
            have hz1 : gt + 1 ≤ (wr.alloc (.cells #[.bool false, .int .i64 xk, .int .i64 xv] 121)).heap.size := by simp; omega
            clear hm1
            go_wp2_with fail
            go_roundw
            case rel => exact ⟨j + 1, N, by go_num, by omega, hN2, hm3, hz1, hb1, hc1⟩
            case measure => simp [intOf]; omega
          | true =>
            cases hNx : N xv with
            | some y =>
              have hF : Hid (histF hs hs.length = none) := Lib.hid (histF_twice hM.out HX.out (by have := HL.out; omega) (opsF_twice hN.out HX2.out rfl hNx) HI.out)
              obtain ⟨yt, yk, yl⟩ := y
              have hlk : wmF N xv = some (.agg #[.int .i64 yt, .int .i64 yk, .bool yl]) := by unfold wmF; rw [hNx]; rfl
              clear hNx
              go_wp2_with (at_lookup; refine wpList_imap_look _ rfl _ _ 112 rfl 3 163 under_int under_miw _ (zero_w _) _ _ _ rfl hm1 _ rfl hwf ?_; rw [hlk]; simp only [Option.getD_some, Option.isSome_some])
              go_ret2
              exact ⟨.inr ⟨_, rfl, hF.out⟩, hc1.alloc _⟩
            | none =>
              have hN2 := Lib.hid (opsF_new hN.out HX2.out rfl hNx)
              have hwn : wrT hs i + wrN xs j + 1 = wrT hs i + wrN xs (j + 1) := by rw [HW2.out, if_pos rfl]; rfl
              have HWN := Lib.hid hwn
              have hlk : wmF N xv = none := by unfold wmF; rw [hNx]; rfl
              have hlt1 : wrT hs i + wrN xs j < 1000000 := by omega
              have hcW : Ch nob (wr.alloc (.cells #[.bool true, .int .i64 xk, .int .i64 xv] 121)) ((wr.alloc (.cells #[.bool true, .int .i64 xk, .int .i64 xv] 121)).alloc (.cells #[.int .i64 0, .int .i64 0, .bool false] 163)) := (Ch.refl _ _).alloc _
              have hm4 := hm1.keep hcW
              clear hNx hwn
              go_wp2_with (first
                | (at_lookup; refine wpList_imap_look _ rfl _ _ 112 rfl 3 163 under_int under_miw _ (zero_w _) _ _ _ rfl hm1 _ rfl hwf ?_; rw [hlk]; simp only [Option.getD_none, Option.isSome_none])
                | (at_mapUpdate; refine wpList_imap_put _ rfl _ _ _ 112 rfl 3 163 under_int under_miw _ _ _ rfl hm4 (by unfold maxLen; omega) _ rfl hwf (wrVal ⟨(i : Int), xk, false⟩) rfl ?_; intro w1 hm2 hc3))
              have hlk2 : (if (wmF N xv).isSome then wrT hs i + wrN xs j else wrT hs i + wrN xs j + 1) = wrT hs i + wrN xs (j + 1) := by rw [hlk]; exact HWN.out
              rw [hlk2, wmF_put] at hm2
              have hw4 := hc3.size
              simp at hw4
              exact ⟨⟨j + 1, _, by go_num, by omega, hN2, Lib.hid hm2, by omega, Lib.hid ((hb1.out.ch hcW (fun h => h)).ch hc3 (fun h => by have h' : gt = w.heap.size := h; omega)), (hc1.seq hcW).fresh hc3 (Nat.le_refl _)⟩, by simp [intOf]; omega⟩
        · have hd2 : decide ((j : Int) < (l : Int)) = false := decide_eq_false (by omega)
          obtain rfl : j = l := by omega
          have hp0 := hb.out.cell (i := 0) (v := .int .i64 ts) rfl
          have hp1 := hb.out.cell (i := 1) (v := .int .i64 tb) rfl
          have hp2 := hb.out.cell (i := 2) (v := .int .i64 tc) rfl
          have hp3 := hb.out.cell (i := 3) (v := .slice A2 j c2) rfl
          have HUw := Lib.hid (HU.out.keep hc)
          go_wp2_with (refine wpList_load_row rfl 118 (.tmp 6) rfl gt rfl 118 #[.int .i64 ts, .int .i64 tb, .int .i64 tc, .slice A2 j c2] (0, 0) _ hb.out rfl rfl (by kernel_rfl) ?_)
          refine (writes _ _ xs ts tb tc HUw.out HO.out.1 (by have := HL.out; omega)).mono ?_
          rintro e w1 ⟨v3, ys, rfl, ho3, -, hy3, hc3⟩
          obtain ⟨A3, c3, hv3⟩ := ho3.opl.shape
          obtain ⟨q, hq⟩ : ∃ q, ys.length = q := ⟨_, rfl⟩
          have hql : q ≤ 9223372036854775807 := by rw [← hq]; exact ho3.len
          have HQ := Lib.hid hq
          rw [hq] at hv3
          have hge := ho3.ge
          subst hv3
          have HGE := Lib.hid (show ∀ b, (Value.slice A3 q c3).ownBlock = some b → ys ≠ [] → ¬ b = w.heap.size from fun b hb _ e => by have := (hge b hb).1; omega)
          clear hge
          have HO3 := Lib.hid ho3.opl
          have HY := Lib.hid hy3
          have hm3 := hm.out.keep hc3
          have hms : Hid (IMap Tryd.prog 3 w1 w.heap.size (wrT hs i + wrN xs j) (wmF (markF N fun v => (ys.take 0).any fun o => v == o.val))) := Lib.hid (by
            rw [show (fun v => (ys.take 0).any fun o => v == o.val) = fun _ => false from rfl, markF_none]; exact hm3)
          have hb3 := Lib.hid (hb.out.ch hc3 (fun h => h))
          have hc4 := hc.seq hc3
          have hz3 : gt + 1 ≤ w1.heap.size := by have := hc3.size; omega
          have HNS := Lib.hid (fun (k : Nat) (hk : k < q) => (show ((wmF (markF N fun v => (ys.take k).any fun o => v == o.val)) (ys.getD k opZero).val).isSome = true from by
            have hmem : ys.getD k opZero ∈ ys := by
              rw [List.getD_eq_getElem?_getD, List.getElem?_eq_getElem (by rw [HQ.out]; exact hk)]; exact List.getElem_mem _
            obtain ⟨k2, h1, h2⟩ := lastW_in ((HY.out _).1 hmem)
            have h3 := lastW_mem (Nat.le_refl _) ((HY.out _).1 hmem)
            have h4 := opsF_has hN.out k2 (by have := HL.out; omega) (by rw [h2]; exact h3.2.1)
            rw [h2] at h4
            unfold wmF markF
            rw [Option.isSome_map]
            split
            · rfl
            · exact h4))
          have HVW := Lib.hid (fun (k : Nat) (hk : k < q) => (show (Lit.int .i64 (ys.getD k opZero).val).wf = true from by
            have hmem : ys.getD k opZero ∈ ys := by
              rw [List.getD_eq_getElem?_getD, List.getElem?_eq_getElem (by rw [HQ.out]; exact hk)]; exact List.getElem_mem _
            obtain ⟨k2, h1, h2⟩ := lastW_in ((HY.out _).1 hmem)
            have := HO.out.2 k2 h1
            rw [h2] at this
            exact this))
          have HFIN := Lib.hid (show histF hs (i + 1) = some (markF N fun v => ys.any fun o => v == o.val) from by
            rw [isLast_of HY.out]; exact histF_step hM.out HX.out (by rw [HL.out]; exact hN.out))
          clear ho3 hy3 hq hm3 hc3 hm hb hp0 hp1 hp2 hp3 hz hN hM HUw
          go_wp2_with fail
          go_loopw [52] (fun x wr => ∃ k : Nat, x = .int .i64 k ∧ k ≤ q ∧ Hid (IMap Tryd.prog 3 wr w.heap.size (wrT hs i + wrN xs j) (wmF (markF N fun v => (ys.take k).any fun o => v == o.val))) ∧ gt + 1 ≤ wr.heap.size ∧ Ch (· = w.heap.size) w1 wr) (fun x _ => q - (intOf x).toNat)
          case atStart => exact ⟨0, rfl, Nat.zero_le _, hms, hz3, Ch.refl _ _⟩
          case round =>
            clear hms hz3 hb3
            obtain ⟨k, rfl, hk, hm, hz, hcc⟩ := hrel
            by_cases hlt3 : k < q
            · have hd3 : decide ((k : Int) < (q : Int)) = true := decide_eq_true (by omega)
              obtain ⟨ad3, rfl, hy0, hy1, hy2⟩ := (HO3.out.ch hcc HGE.out).at.2.2 k (by rw [HQ.out]; exact hlt3)
              have hns := HNS.out k hlt3
              have hvw := HVW.out k hlt3
              have hmt := Lib.hid (mark_take N ys k (by rw [HQ.out]; exact hlt3) _ rfl)
              obtain ⟨y, hy⟩ : ∃ y, ys.getD k opZero = y := ⟨_, rfl⟩
              rw [hy] at hy0 hy1 hy2 hns hvw hmt
              obtain ⟨yw, yk, yv⟩ := y
              have hcB : Ch nob wr (wr.alloc (.cells #[.bool yw, .int .i64 yk, .int .i64 yv] 121)) := (Ch.refl _ _).alloc _
              have hm1 := hm.out.keep hcB
              have hc5 := hcc.seq hcB
              obtain ⟨Mk, hMk⟩ : ∃ Mk, (markF N fun v => (ys.take k).any fun o => v == o.val) = Mk := ⟨_, rfl⟩
              rw [hMk] at hm1 hns hmt
              have HM := Lib.hid hm
              clear hy hcB hm hMk
              obtain ⟨o, ho⟩ : ∃ o, Mk yv = some o := by
                unfold wmF at hns
                rw [Option.isSome_map] at hns
                exact Option.isSome_iff_exists.1 hns
              obtain ⟨ot, ok, ol⟩ := o
              have hlk : wmF Mk yv = some (.agg #[.int .i64 ot, .int .i64 ok, .bool ol]) := by unfold wmF; rw [ho]; rfl
              have hput : Hid (putM (wmF Mk) yv (wrVal ⟨ot, ok, true⟩) = wmF (markF N fun v => (ys.take (k + 1)).any fun o => v == o.val)) := Lib.hid (by
                rw [wmF_put, ← hmt.out, ho]; rfl)
              have hcW : Ch nob (wr.alloc (.cells #[.bool yw, .int .i64 yk, .int .i64 yv] 121)) ((wr.alloc (.cells #[.bool yw, .int .i64 yk, .int .i64 yv] 121)).alloc (.cells #[.int .i64 ot, .int .i64 ok, .bool true] 163)) := (Ch.refl _ _).alloc _
              have hm4 := hm1.keep hcW
              have hc6 := hc5.seq hcW
              have hlt4 : wrT hs i + wrN xs j < maxLen := by have := wrN_le xs j; unfold maxLen; omega
              have hif : (if (wmF Mk yv).isSome then wrT hs i + wrN xs j else wrT hs i + wrN xs j + 1) = wrT hs i + wrN xs j := by rw [hlk]; rfl
              have HIF := Lib.hid hif
              clear ho hmt hns hif
              go_wp2_with (first
                | (at_lookup; refine wpList_imap_get _ rfl _ _ 112 rfl 3 163 under_int under_miw _ (zero_w _) _ _ _ rfl hm1 _ rfl hvw ?_; rw [hlk]; simp only [Option.getD_some])
                | (at_mapUpdate; refine wpList_imap_put _ rfl _ _ _ 112 rfl 3 163 under_int under_miw _ _ _ rfl hm4 hlt4 _ rfl hvw (wrVal ⟨ot, ok, true⟩) rfl ?_; intro w7 hm7 hc7))
              rw [HIF.out, hput.out] at hm7
              have hw7 := hc7.size
              simp at hw7
              exact ⟨⟨k + 1, by go_num, by omega, Lib.hid hm7, by omega, hc6.trans hc7 (fun b hb e => e)⟩, by simp [intOf]; omega⟩
            · have hd3 : decide ((k : Int) < (q : Int)) = false := decide_eq_false (by omega)
              obtain rfl : k = q := by omega
              have hm9 : Hid (IMap Tryd.prog 3 wr w.heap.size (wrT hs (i + 1)) (wmF (markF N fun v => ys.any fun o => v == o.val))) := Lib.hid (by
                rw [HWS.out]
                have := hm.out
                rw [← HQ.out, List.take_length] at this
                exact this)
              have hc9 := hc4.fresh hcc (Nat.le_refl _)
              go_wp2_with fail
              go_roundw
              case rel => exact ⟨i + 1, _, by go_num, by omega, HFIN, hm9, by omega, hc9⟩
              case measure => simp [intOf]; omega
    · have hd : decide ((i : Int) < (n : Int)) = false := decide_eq_false (by omega)
      obtain rfl : i = n := by omega
      go_wp2_with fail
      go_ret2
      exact ⟨.inl ⟨_, _, rfl, by rw [HN.out]; exact hM.out, by rw [HN.out]; exact hm.out⟩, hc⟩
end Go.Proofs.YtlhfpnkfapghoaaDoor
end

section
/- Do the stamps of a history fit, by the program (history.stamps)? No condition but each theorem's own. -/
set_option linter.unusedVariables false
set_option linter.unusedSimpArgs false
namespace Go.Proofs.YtlhfpnkfapghoaaDoor
open Go.RowKit Go.Maps

/-- What was seen, and when each session's last one committed. -/
structure St where
  seen : Int → Bool
  last : Int → Option Int
def St.zero : St := ⟨fun _ => false, fun _ => none⟩
def addB (f : Int → Bool) (k : Int) : Int → Bool := fun x => x == k || f x
def putI (f : Int → Option Int) (k v : Int) : Int → Option Int := fun x => if x = k then some v else f x
def overB (o : Option Int) (b : Int) : Bool := match o with | some e => decide (b < e) | none => false
def stStep (S : St) (t : Txr) : Option St :=
  if S.seen t.beg || addB S.seen t.beg t.com || overB (S.last t.ses) t.beg then none else some ⟨addB (addB S.seen t.beg) t.com, putI S.last t.ses t.com⟩
def stF (hs : List Txr) : Nat → Option St
  | 0 => some St.zero
  | i + 1 => (stF hs i).bind fun S => stStep S (hs.getD i txrZero)
theorem stF_none {hs : List Txr} {i j : Nat} (hij : i ≤ j) (h : stF hs i = none) : stF hs j = none := by
  induction j with
  | zero => obtain rfl : i = 0 := by omega
            exact h
  | succ j ih =>
    by_cases e : i = j + 1
    · rw [← e]; exact h
    · unfold stF; rw [ih (by omega)]; rfl
theorem stF_no {hs : List Txr} {i : Nat} {S : St} {t : Txr} (h : stF hs i = some S) (ht : hs.getD i txrZero = t) (hi : i < hs.length) (h2 : (S.seen t.beg || addB S.seen t.beg t.com || overB (S.last t.ses) t.beg) = true) : (stF hs hs.length).isSome = false := by
  rw [stF_none (i := i + 1) (by omega)]
  · rfl
  · unfold stF; rw [h, ht]; show stStep S t = none; unfold stStep; rw [if_pos h2]
theorem stF_yes {hs : List Txr} {i : Nat} {S : St} {t : Txr} (h : stF hs i = some S) (ht : hs.getD i txrZero = t) (h2 : (S.seen t.beg || addB S.seen t.beg t.com || overB (S.last t.ses) t.beg) = false) : stF hs (i + 1) = some ⟨addB (addB S.seen t.beg) t.com, putI S.last t.ses t.com⟩ := by
  unfold stF; rw [h, ht]; show stStep S t = _; unfold stStep; rw [if_neg (by rw [h2]; decide)]
def sawF (f : Int → Bool) : Int → Option Value := fun k => if f k then some (.agg #[]) else none
def lastIF (f : Int → Option Int) : Int → Option Value := fun k => (f k).map fun v => .int .i64 v
theorem sawF_put (f : Int → Bool) (k : Int) : putM (sawF f) k (.agg #[]) = sawF (addB f k) := by
  funext x
  unfold putM sawF addB
  by_cases e : x = k <;> simp [e]
theorem lastIF_put (f : Int → Option Int) (k v : Int) : putM (lastIF f) k (.int .i64 v) = lastIF (putI f k v) := by
  funext x
  unfold putM lastIF putI
  split <;> rfl
theorem sawF_yes {f : Int → Bool} {k : Int} (h : f k = true) : sawF f k = some (.agg #[]) := by unfold sawF; rw [if_pos h]
theorem sawF_no {f : Int → Bool} {k : Int} (h : f k = false) : sawF f k = none := by unfold sawF; rw [if_neg (by rw [h]; decide)]
/-- The two stamps of a transaction, one behind the other. -/
def stampAt (b c : Int) (k : Nat) : Int := if k = 0 then b else c
def sawTo (f : Int → Bool) (b c : Int) : Nat → Int → Bool
  | 0 => f
  | k + 1 => addB (sawTo f b c k) (stampAt b c k)
theorem stamp_index (b c : Int) (k : Nat) (hk : k < 2) (w : World) : (Instr.index 178 (.agg #[.int .i64 b, .int .i64 c]) (.int .i64 k)).run Tryd.prog w = .ok (.int .i64 (stampAt b c k)) w :=
  run_index_one (e := 3) (len := 2) (by kernel_rfl) w (by kernel_rfl) (by kernel_rfl) _ _ _ _ (by omega) (by omega) (by
    obtain rfl | rfl : k = 0 ∨ k = 1 := by omega
    · rfl
    · rfl)

set_option maxRecDepth 100000 in
set_option maxHeartbeats 4000000 in
theorem stamps_history (w : World) (v : Value) (hs : List Txr) (hv : Txns w v hs) (hk : TxnsOk hs) (hn : hs.length ≤ 1000000) : Calls Tryd.prog 117 #[v] w fun e w' => e = .returned (.bool (stF hs hs.length).isSome) ∧ Ch nob w w' := by
  obtain ⟨A, cp, rfl⟩ := hv.shape
  have HV := Lib.hid hv
  have HK := Lib.hid hk
  have hmm := @run_makeMap Tryd.prog
  obtain ⟨_, ⟨_, hlen⟩, _⟩ := hv.at
  obtain ⟨n, hn2⟩ : ∃ n, hs.length = n := ⟨_, rfl⟩
  have HN := Lib.hid hn2
  rw [hn2] at HV hlen hn
  rw [hn2]
  have hc0 : Ch nob w ((w.alloc (.map #[] 0)).alloc (.map #[] 0)) := ((Ch.refl _ _).alloc _).alloc _
  have hms : Hid (IMap Tryd.prog 3 ((w.alloc (.map #[] 0)).alloc (.map #[] 0)) w.heap.size 0 (sawF St.zero.seen)) := Lib.hid ((IMap.made Tryd.prog 3 w).keep ((Ch.refl _ _).alloc _))
  have hml : Hid (IMap Tryd.prog 3 ((w.alloc (.map #[] 0)).alloc (.map #[] 0)) (w.heap.size + 1) 0 (lastIF St.zero.last)) := Lib.hid (by
    have := IMap.made Tryd.prog 3 (w.alloc (.map #[] 0))
    rw [show lastIF St.zero.last = fun _ => none from rfl]
    simpa using this)
  have hz0 : w.heap.size + 2 ≤ ((w.alloc (.map #[] 0)).alloc (.map #[] 0)).heap.size := by simp
  clear hv hk hn2
  go_enter Tryd.func117, Tryd.ntmps117
  go_wp2_with fail
  go_loopw [17] (fun x wr => ∃ (i c1 c2 : Nat) (S : St), x = .int .i64 i ∧ i ≤ n ∧ c1 ≤ 2 * i ∧ c2 ≤ i ∧ Hid (stF hs i = some S) ∧ Hid (IMap Tryd.prog 3 wr w.heap.size c1 (sawF S.seen)) ∧ Hid (IMap Tryd.prog 3 wr (w.heap.size + 1) c2 (lastIF S.last)) ∧ w.heap.size + 2 ≤ wr.heap.size ∧ Ch nob w wr) (fun x _ => n - (intOf x).toNat)
  case atStart => exact ⟨0, 0, 0, St.zero, rfl, Nat.zero_le _, by omega, by omega, Lib.hid rfl, hms, hml, hz0, hc0⟩
  case round =>
    clear hms hml hc0 hmm hz0
    obtain ⟨i, c1, c2, S, rfl, hi, hi1, hi2, hS, hms, hml, hz, hc⟩ := hrel
    by_cases hlt : i < n
    · have hd : decide ((i : Int) < (n : Int)) = true := decide_eq_true (by omega)
      obtain ⟨ad, u, rfl, hx0, hx1, hx2, hx3, hu⟩ := HV.out.both hc i (by rw [HN.out]; exact hlt)
      obtain ⟨_, hw0, hw1, hw2⟩ := HK.out i (by rw [HN.out]; exact hlt)
      have HI := Lib.hid (show i < hs.length from by rw [HN.out]; exact hlt)
      obtain ⟨T, hT⟩ : ∃ T, hs.getD i txrZero = T := ⟨_, rfl⟩
      rw [hT] at hx0 hx1 hx2 hw0 hw1 hw2
      have HX := Lib.hid hT
      obtain ⟨ts, tb, tc, xs⟩ := T
      dsimp only at hx0 hx1 hx2 hw0 hw1 hw2
      obtain ⟨A2, c3, rfl⟩ := hu.shape
      obtain ⟨l, hl⟩ : ∃ l, (hs.getD i txrZero).ops.length = l := ⟨_, rfl⟩
      rw [hl] at hx3
      have hcA : Ch nob wr (wr.alloc (.cells #[.int .i64 ts, .int .i64 tb, .int .i64 tc, .slice A2 l c3] 118)) := (Ch.refl _ _).alloc _
      have hms2 := Lib.hid (hms.out.keep hcA)
      have hml2 := Lib.hid (hml.out.keep hcA)
      have hc2 := hc.seq hcA
      have HB := Lib.hid (Blk.new wr #[.int .i64 ts, .int .i64 tb, .int .i64 tc, .slice A2 l c3] 118)
      clear hT hu hl hms hml hc hcA
      have hWF := Lib.hid (And.intro hw0 (And.intro hw1 hw2))
      clear hw0 hw1 hw2
      go_wp2_with fail
      obtain ⟨wo, hwo⟩ : ∃ wo, wr.alloc (.cells #[.int .i64 ts, .int .i64 tb, .int .i64 tc, .slice A2 l c3] 118) = wo := ⟨_, rfl⟩
      obtain ⟨gt, hgt⟩ : ∃ gt, wr.heap.size = gt := ⟨_, rfl⟩
      have hzo : gt + 1 ≤ wo.heap.size := by rw [← hwo, ← hgt]; simp
      rw [hwo, hgt] at HB
      rw [hwo] at hms2 hml2 hc2 ⊢
      rw [hgt] at hz ⊢
      clear hwo hgt hx0 hx1 hx2 hx3
      go_loopw [26] (fun x wr => ∃ k c1 : Nat, x = .int .i64 k ∧ k ≤ 2 ∧ c1 ≤ 2 * i + k ∧ Hid (1 ≤ k → S.seen tb = false) ∧ Hid (2 ≤ k → addB S.seen tb tc = false) ∧ Hid (IMap Tryd.prog 3 wr w.heap.size c1 (sawF (sawTo S.seen tb tc k))) ∧ Hid (IMap Tryd.prog 3 wr (w.heap.size + 1) c2 (lastIF S.last)) ∧ Hid (Blk wr gt #[.int .i64 ts, .int .i64 tb, .int .i64 tc, .slice A2 l c3] 118) ∧ gt + 1 ≤ wr.heap.size ∧ Ch nob w wr) (fun x _ => 2 - (intOf x).toNat)
      case atStart => exact ⟨0, c1, rfl, by omega, by omega, Lib.hid (fun h => by omega), Lib.hid (fun h => by omega), hms2, hml2, HB, hzo, hc2⟩
      case round =>
        clear hms2 hml2 HB hzo hc2
        obtain ⟨k, c4, rfl, hk, hk1, hne1, hne2, hms, hml, hb, hzo, hc⟩ := hrel
        by_cases hlt2 : k < 2
        · have hd2 : decide ((k : Int) < 2) = true := decide_eq_true (by omega)
          have hidx := stamp_index tb tc k hlt2
          have hwf : (Lit.int .i64 (stampAt tb tc k)).wf = true := by unfold stampAt; split <;> first | exact hWF.out.2.1 | exact hWF.out.2.2
          have HS2 := Lib.hid (show sawTo S.seen tb tc (k + 1) = addB (sawTo S.seen tb tc k) (stampAt tb tc k) from rfl)
          have hcase : (k = 0 ∧ sawTo S.seen tb tc k = S.seen ∧ stampAt tb tc k = tb) ∨ (k = 1 ∧ sawTo S.seen tb tc k = addB S.seen tb ∧ stampAt tb tc k = tc) := by
            obtain rfl | rfl : k = 0 ∨ k = 1 := by omega
            · exact .inl ⟨rfl, rfl, rfl⟩
            · exact .inr ⟨rfl, rfl, rfl⟩
          have HCS := Lib.hid hcase
          clear hcase
          obtain ⟨s, hs2⟩ : ∃ s, stampAt tb tc k = s := ⟨_, rfl⟩
          obtain ⟨F, hF⟩ : ∃ F, sawTo S.seen tb tc k = F := ⟨_, rfl⟩
          rw [hs2] at hidx hwf HS2 HCS
          rw [hF] at hms HS2 HCS
          clear hs2 hF
          cases hsn : F s with
          | true =>
            have hlk := sawF_yes hsn
            have HF := Lib.hid (show (stF hs hs.length).isSome = false from stF_no hS.out HX.out HI.out (by
              rcases HCS.out with ⟨_, h1, h2⟩ | ⟨_, h1, h2⟩
              · rw [h1, h2] at hsn
                show (S.seen tb || _ || _) = true
                rw [hsn]; rfl
              · rw [h1, h2] at hsn
                show (S.seen tb || addB S.seen tb tc || _) = true
                rw [hsn]; simp))
            clear hsn
            go_wp2_with (first | (at_lookup; refine wpList_imap_look _ rfl _ _ 177 rfl 3 158 under_int under_mis _ (zero_s _) _ _ _ rfl hms.out _ rfl hwf ?_; rw [hlk]; simp only [Option.getD_none, Option.getD_some, Option.isSome_none, Option.isSome_some]) | fail)
            go_ret
            exact ⟨ret_bool (by rw [← HN.out]; exact HF.out.symm), hc.alloc _⟩
          | false =>
            have hlk := sawF_no hsn
            have hcW : Ch nob wr (wr.alloc (.cells #[] 158)) := (Ch.refl _ _).alloc _
            have hm4 := hms.out.keep hcW
            have hml4 := Lib.hid (hml.out.keep hcW)
            have hb4 := Lib.hid (hb.out.ch hcW (fun h => h))
            have hc4 := hc.seq hcW
            have hne3 : Hid (1 ≤ k + 1 → S.seen tb = false) := Lib.hid (fun _ => by
              rcases HCS.out with ⟨_, h1, h2⟩ | ⟨h0, h1, h2⟩
              · rw [h1, h2] at hsn; exact hsn
              · exact hne1.out (by omega))
            have hne4 : Hid (2 ≤ k + 1 → addB S.seen tb tc = false) := Lib.hid (fun h => by
              rcases HCS.out with ⟨h0, h1, h2⟩ | ⟨h0, h1, h2⟩
              · omega
              · rw [h1, h2] at hsn; exact hsn)
            clear hsn hml hb hc hne1 hne2
            go_wp2_with (first
              | (at_lookup; refine wpList_imap_look _ rfl _ _ 177 rfl 3 158 under_int under_mis _ (zero_s _) _ _ _ rfl hms.out _ rfl hwf ?_; rw [hlk]; simp only [Option.getD_none, Option.getD_some, Option.isSome_none, Option.isSome_some])
              | (at_mapUpdate; refine wpList_imap_put _ rfl _ _ _ 177 rfl 3 158 under_int under_mis _ _ _ rfl hm4 (by unfold maxLen; omega) _ rfl hwf (.agg #[]) rfl ?_; intro w1 hm2 hc3))
            rw [sawF_put] at hm2
            have hw1 := hc3.size
            simp at hw1
            exact ⟨⟨k + 1, (if (sawF F s).isSome then c4 else c4 + 1), by go_num, by omega, (by split <;> omega), hne3, hne4, Lib.hid (by rw [HS2.out]; exact hm2), Lib.hid (hml4.out.ch hc3 (fun h => by have h' : w.heap.size + 1 = w.heap.size := h; omega)), Lib.hid (hb4.out.ch hc3 (fun h => by have h' : gt = w.heap.size := h; omega)), by omega, hc4.fresh hc3 (Nat.le_refl _)⟩, by simp [intOf]; omega⟩
        · have hd2 : decide ((k : Int) < 2) = false := decide_eq_false (by omega)
          obtain rfl : k = 2 := by omega
          have hp0 := hb.out.cell (i := 0) (v := .int .i64 ts) rfl
          have hp1 := hb.out.cell (i := 1) (v := .int .i64 tb) rfl
          have hp2 := hb.out.cell (i := 2) (v := .int .i64 tc) rfl
          have hwf := hWF.out.1
          have hml1 := hml.out
          have HPUT := Lib.hid (lastIF_put S.last ts tc)
          have H1 := Lib.hid (hne1.out (by omega))
          have H2 := Lib.hid (hne2.out (by omega))
          have hyes : overB (S.last ts) tb = false → Hid (stF hs (i + 1) = some ⟨addB (addB S.seen tb) tc, putI S.last ts tc⟩) := fun h => Lib.hid (stF_yes hS.out HX.out (by
            show (S.seen tb || addB S.seen tb tc || overB (S.last ts) tb) = false
            rw [H1.out, H2.out, h]; rfl))
          have HYES := Lib.hid hyes
          have hno : overB (S.last ts) tb = true → Hid ((stF hs hs.length).isSome = false) := fun h => Lib.hid (stF_no hS.out HX.out HI.out (by
            show (S.seen tb || addB S.seen tb tc || overB (S.last ts) tb) = true
            rw [h]; simp))
          have HNO := Lib.hid hno
          clear hyes hno
          cases hL : S.last ts with
          | none =>
            have hlk : lastIF S.last ts = none := by unfold lastIF; rw [hL]; rfl
            have HY := HYES.out (by rw [hL]; rfl)
            clear hL
            go_wp2_with (first | (at_lookup; refine wpList_imap_look _ rfl _ _ 156 rfl 3 3 under_int under_mii _ (zero_i _) _ _ _ rfl hml1 _ rfl hwf ?_; rw [hlk]; simp only [Option.getD_none, Option.getD_some, Option.isSome_none, Option.isSome_some]) | (at_mapUpdate; refine wpList_imap_put _ rfl _ _ _ 156 rfl 3 3 under_int under_mii _ _ _ rfl hml1 (by unfold maxLen; omega) _ rfl hwf (.int .i64 tc) rfl ?_; intro w1 hm2 hc3))
            rw [HPUT.out] at hm2
            have hw1 := hc3.size
            have hms9 := Lib.hid (hms.out.ch hc3 (fun h => by have h' : w.heap.size = w.heap.size + 1 := h; omega))
            have hc9 := hc.fresh hc3 (by omega)
            have hm9 := Lib.hid hm2
            have hcc2 : (if (lastIF S.last ts).isSome then c2 else c2 + 1) ≤ i + 1 := by split <;> omega
            obtain ⟨c9, hc9e⟩ : ∃ c9, (if (lastIF S.last ts).isSome then c2 else c2 + 1) = c9 := ⟨_, rfl⟩
            rw [hc9e] at hm9 hcc2
            clear hm2 hc3 hms hml hml1 hc hb hp0 hp1 hp2 hc9e hlk
            go_roundw
            case rel => exact ⟨i + 1, c4, c9, _, by go_num, by omega, by omega, hcc2, HY, hms9, hm9, by omega, hc9⟩
            case measure => simp [intOf]; omega
          | some e =>
            have hlk : lastIF S.last ts = some (.int .i64 e) := by unfold lastIF; rw [hL]; rfl
            by_cases hov : tb < e
            · have hdo : decide (tb < e) = true := decide_eq_true hov
              have HY := HNO.out (by rw [hL]; exact hdo)
              clear hL
              go_wp2_with (first | (at_lookup; refine wpList_imap_look _ rfl _ _ 156 rfl 3 3 under_int under_mii _ (zero_i _) _ _ _ rfl hml1 _ rfl hwf ?_; rw [hlk]; simp only [Option.getD_none, Option.getD_some, Option.isSome_none, Option.isSome_some]) | (at_mapUpdate; refine wpList_imap_put _ rfl _ _ _ 156 rfl 3 3 under_int under_mii _ _ _ rfl hml1 (by unfold maxLen; omega) _ rfl hwf (.int .i64 tc) rfl ?_; intro w1 hm2 hc3))
              go_ret
              exact ⟨ret_bool (by rw [← HN.out]; exact HY.out.symm), hc⟩
            · have hdo : decide (tb < e) = false := decide_eq_false hov
              have HY := HYES.out (by rw [hL]; exact hdo)
              clear hL
              go_wp2_with (first | (at_lookup; refine wpList_imap_look _ rfl _ _ 156 rfl 3 3 under_int under_mii _ (zero_i _) _ _ _ rfl hml1 _ rfl hwf ?_; rw [hlk]; simp only [Option.getD_none, Option.getD_some, Option.isSome_none, Option.isSome_some]) | (at_mapUpdate; refine wpList_imap_put _ rfl _ _ _ 156 rfl 3 3 under_int under_mii _ _ _ rfl hml1 (by unfold maxLen; omega) _ rfl hwf (.int .i64 tc) rfl ?_; intro w1 hm2 hc3))
              rw [HPUT.out] at hm2
              have hw1 := hc3.size
              have hms9 := Lib.hid (hms.out.ch hc3 (fun h => by have h' : w.heap.size = w.heap.size + 1 := h; omega))
              have hc9 := hc.fresh hc3 (by omega)
              have hm9 := Lib.hid hm2
              have hcc2 : (if (lastIF S.last ts).isSome then c2 else c2 + 1) ≤ i + 1 := by split <;> omega
              obtain ⟨c9, hc9e⟩ : ∃ c9, (if (lastIF S.last ts).isSome then c2 else c2 + 1) = c9 := ⟨_, rfl⟩
              rw [hc9e] at hm9 hcc2
              clear hm2 hc3 hms hml hml1 hc hb hp0 hp1 hp2 hc9e hlk
              go_roundw
              case rel => exact ⟨i + 1, c4, c9, _, by go_num, by omega, by omega, hcc2, HY, hms9, hm9, by omega, hc9⟩
              case measure => simp [intOf]; omega
    · have hd : decide ((i : Int) < (n : Int)) = false := decide_eq_false (by omega)
      obtain rfl : i = n := by omega
      go_wp2_with fail
      go_ret
      exact ⟨ret_bool (by rw [hS.out]; rfl), hc⟩
end Go.Proofs.YtlhfpnkfapghoaaDoor
end

section
/- Can there be such a history, by the program (history.Check)? No condition but each theorem's own. -/
set_option linter.unusedVariables false
set_option linter.unusedSimpArgs false
namespace Go.Proofs.YtlhfpnkfapghoaaDoor
open Go.RowKit Go.Maps

def txrOkB (t : Txr) : Bool := txnOk t.ses t.beg t.com t.ops
def allTxn (hs : List Txr) : Bool := (List.range hs.length).all fun i => txrOkB (hs.getD i txrZero)
/-- Is a read's value one that is written to its key? -/
def readOk (M : WM) (x : Opn) : Bool := x.wr || (x.val == 0 || (match M x.val with | some y => y.key == x.key | none => false))
def readsOk (M : WM) (xs : List Opn) : Bool := (List.range xs.length).all fun j => readOk M (xs.getD j opZero)
def allReads (M : WM) (hs : List Txr) : Bool := (List.range hs.length).all fun i => readsOk M (hs.getD i txrZero).ops
theorem all_yes {p : Nat → Bool} {n : Nat} (h : ∀ j, j < n → p j = true) : (List.range n).all p = true := by
  rw [List.all_eq_true]; intro i hi; exact h i (List.mem_range.1 hi)
theorem all_no {p : Nat → Bool} {n j : Nat} (hj : j < n) (h : p j = false) : (List.range n).all p = false := by
  rw [List.all_eq_false]; exact ⟨j, List.mem_range.2 hj, by simp [h]⟩
def bigB (hs : List Txr) : Bool := decide (64 < hs.length) || decide (1024 < countTo hs hs.length)
/-- The error's number. -/
def chkH (hs : List Txr) : Int :=
  if bigB hs then 3 else if allTxn hs then (match histF hs hs.length with | none => 2 | some M => if (stF hs hs.length).isSome then (if allReads M hs then 0 else 2) else 2) else 2
theorem chk_big {hs : List Txr} (h : bigB hs = true) : chkH hs = 3 := by unfold chkH; rw [if_pos h]
theorem chk_txn {hs : List Txr} (h : bigB hs = false) (h1 : allTxn hs = false) : chkH hs = 2 := by unfold chkH; rw [h, h1]; rfl
theorem chk_twice {hs : List Txr} (h : bigB hs = false) (h1 : histF hs hs.length = none) : chkH hs = 2 := by
  unfold chkH; rw [h, h1]; cases allTxn hs <;> rfl
theorem chk_st {hs : List Txr} {M : WM} (h : bigB hs = false) (h1 : histF hs hs.length = some M) (h2 : (stF hs hs.length).isSome = false) : chkH hs = 2 := by
  unfold chkH; rw [h, h1]; dsimp only; rw [h2]; cases allTxn hs <;> rfl
theorem chk_read {hs : List Txr} {M : WM} (h : bigB hs = false) (h1 : histF hs hs.length = some M) (h2 : allReads M hs = false) : chkH hs = 2 := by
  unfold chkH; rw [h, h1]; dsimp only; rw [h2]; cases allTxn hs <;> cases (stF hs hs.length).isSome <;> rfl
theorem chk_ok {hs : List Txr} {M : WM} (h : bigB hs = false) (h0 : allTxn hs = true) (h1 : histF hs hs.length = some M) (h2 : (stF hs hs.length).isSome = true) (h3 : allReads M hs = true) : chkH hs = 0 := by
  unfold chkH; rw [h, h0, h1]; dsimp only; rw [h2, h3]; rfl

set_option maxRecDepth 100000 in
set_option maxHeartbeats 4000000 in
theorem check_history (w : World) (v : Value) (hs : List Txr) (hv : Txns w v hs) (hk : TxnsOk hs) (hn : countTo hs hs.length ≤ 1000000) : Calls Tryd.prog 70 #[v] w fun e w' => e = .returned (.int .i64 (chkH hs)) ∧ Ch nob w w' := by
  obtain ⟨A, cp, rfl⟩ := hv.shape
  have HV := Lib.hid hv
  have HK := Lib.hid hk
  obtain ⟨_, ⟨_, hlen⟩, _⟩ := hv.at
  obtain ⟨n, hn2⟩ : ∃ n, hs.length = n := ⟨_, rfl⟩
  have HN := Lib.hid hn2
  have HC := Lib.hid hn
  rw [hn2] at HV hlen ⊢
  have HBIG := Lib.hid (show bigB hs = (decide (64 < n) || decide (1024 < countTo hs n)) from by unfold bigB; rw [hn2])
  obtain ⟨m, hm⟩ : ∃ m, countTo hs n = m := ⟨_, rfl⟩
  rw [hm] at HBIG
  have HM := Lib.hid (show countTo hs hs.length = m from by rw [hn2]; exact hm)
  clear hv hk hn2 hn hm
  by_cases h64 : (64 : Int) < n
  · have d64 : decide ((64 : Int) < n) = true := decide_eq_true h64
    have HF := Lib.hid (chk_big (show bigB hs = true from by rw [HBIG.out, decide_eq_true (show 64 < n by omega)]; rfl))
    go_enter Tryd.func70, Tryd.ntmps70
    go_wp2_with fail
    go_ret
    exact ⟨ret_int HF.out.symm, Ch.refl _ _⟩
  · have d64 : decide ((64 : Int) < n) = false := decide_eq_false h64
    have HCT := Lib.hid (ops_history w (.slice A n cp) hs HV.out HC.out)
    by_cases hbig : (1024 : Int) < m
    · have dbig : decide ((1024 : Int) < m) = true := decide_eq_true hbig
      have HF := Lib.hid (chk_big (show bigB hs = true from by rw [HBIG.out, decide_eq_true (show 1024 < m by omega), Bool.or_true]))
      go_enter Tryd.func70, Tryd.ntmps70
      go_wp2_with fail
      refine HCT.out.mono ?_
      rintro e w1 ⟨rfl, hc1⟩
      rw [HM.out]
      go_wp2_with fail
      go_ret
      exact ⟨ret_int HF.out.symm, hc1⟩
    · have dbig : decide ((1024 : Int) < m) = false := decide_eq_false hbig
      have HSM := Lib.hid (show bigB hs = false from by rw [HBIG.out, decide_eq_false (show ¬ 64 < n by omega), decide_eq_false (show ¬ 1024 < m by omega)]; rfl)
      go_enter Tryd.func70, Tryd.ntmps70
      go_wp2_with fail
      refine HCT.out.mono ?_
      rintro e w1 ⟨rfl, hc1⟩
      rw [HM.out]
      clear HCT
      go_wp2_with fail
      go_loopw [23] (fun x wr => ∃ i : Nat, x = .int .i64 i ∧ i ≤ n ∧ Hid (∀ j, j < i → txrOkB (hs.getD j txrZero) = true) ∧ Ch nob w wr) (fun x _ => n - (intOf x).toNat)
      case atStart => exact ⟨0, rfl, Nat.zero_le _, Lib.hid (fun j hj => by omega), hc1⟩
      case round =>
        clear hc1
        obtain ⟨i, rfl, hi, hst, hc⟩ := hrel
        by_cases hlt : i < n
        · have hd : decide ((i : Int) < (n : Int)) = true := decide_eq_true (by omega)
          obtain ⟨ad, u, rfl, hx0, hx1, hx2, hx3, hu⟩ := HV.out.both hc i (by rw [HN.out]; exact hlt)
          have HI := Lib.hid (show i < hs.length from by rw [HN.out]; exact hlt)
          obtain ⟨T, hT⟩ : ∃ T, hs.getD i txrZero = T := ⟨_, rfl⟩
          rw [hT] at hx0 hx1 hx2 hu
          have HX := Lib.hid hT
          obtain ⟨ts, tb, tc, xs⟩ := T
          dsimp only at hx0 hx1 hx2 hu
          obtain ⟨A2, c2, rfl⟩ := hu.shape
          obtain ⟨l, hl⟩ : ∃ l, xs.length = l := ⟨_, rfl⟩
          rw [hl] at hx3 hu
          have HU := Lib.hid ((hu.keep hc).keep ((Ch.refl nob wr).alloc (.cells #[.int .i64 ts, .int .i64 tb, .int .i64 tc, .slice A2 l c2] 118)))
          have hc2 := hc.alloc (.cells #[.int .i64 ts, .int .i64 tb, .int .i64 tc, .slice A2 l c2] 118)
          clear hT hu hc hl
          go_wp2_with fail
          refine (right_txn _ (.slice A2 l c2) xs ts tb tc HU.out).mono ?_
          rintro e w2 ⟨rfl, hc3⟩
          have hc4 := hc2.seq hc3
          clear hc2 hc3 hx0 hx1 hx2 hx3
          have HXO := Lib.hid (show txrOkB (hs.getD i txrZero) = txnOk ts tb tc xs from by rw [HX.out]; rfl)
          cases hok : txnOk ts tb tc xs with
          | true =>
            have HT := Lib.hid (show ∀ j, j < i + 1 → txrOkB (hs.getD j txrZero) = true from fun j hj => by
              by_cases e : j = i
              · rw [e, HXO.out]; exact hok
              · exact hst.out j (by omega))
            clear hok
            go_wp2_with fail
            go_roundw
            case rel => exact ⟨i + 1, by go_num, by omega, HT, hc4⟩
            case measure => simp [intOf]; omega
          | false =>
            have HF := Lib.hid (chk_txn HSM.out (all_no HI.out (by rw [HXO.out]; exact hok)))
            clear hok
            go_wp2_with fail
            go_ret
            exact ⟨ret_int HF.out.symm, hc4⟩
        · have hd : decide ((i : Int) < (n : Int)) = false := decide_eq_false (by omega)
          obtain rfl : n = i := by omega
          have HALL := Lib.hid (show allTxn hs = true from all_yes (fun j hj => hst.out j (by have := HN.out; omega)))
          go_wp2_with fail
          refine (writes_history _ _ hs (HV.out.keep hc) HK.out HC.out).mono ?_
          rintro e w2 ⟨hres, hc2⟩
          have hc3 := hc.seq hc2
          have HW := Lib.hid (stamps_history w2 (.slice A n cp) hs (HV.out.keep hc3) HK.out (by have := HN.out; omega))
          rcases hres with ⟨b, M, rfl, hM, hmap⟩ | ⟨b, rfl, hM⟩
          · have HMM := Lib.hid hM
            have HMAP := Lib.hid hmap
            clear hM hmap hc hc2
            go_wp2_with fail
            refine HW.out.mono ?_
            rintro e w3 ⟨rfl, hc4⟩
            have hc5 := hc3.seq hc4
            have HMP := Lib.hid (HMAP.out.keep hc4)
            clear HW HMAP hc4 hc3
            cases hst2 : (stF hs hs.length).isSome with
            | false =>
              have HF := Lib.hid (chk_st HSM.out HMM.out hst2)
              clear hst2
              go_wp2_with fail
              go_ret
              exact ⟨ret_int HF.out.symm, hc5⟩
            | true =>
              have HST := Lib.hid hst2
              clear hst2
              go_wp2_with fail
              go_loopw [45] (fun x wr => ∃ i : Nat, x = .int .i64 i ∧ i ≤ n ∧ Hid (∀ j, j < i → readsOk M (hs.getD j txrZero).ops = true) ∧ Hid (IMap Tryd.prog 3 wr b (wrT hs hs.length) (wmF M)) ∧ Ch nob w wr) (fun x _ => n - (intOf x).toNat)
              case atStart => exact ⟨0, rfl, Nat.zero_le _, Lib.hid (fun j hj => by omega), HMP, hc5⟩
              case round =>
                clear hc5 HMP
                obtain ⟨j, rfl, hj, hst3, hmp, hc⟩ := hrel
                by_cases hlt2 : j < n
                · have hd2 : decide ((j : Int) < (n : Int)) = true := decide_eq_true (by omega)
                  obtain ⟨ad, u, rfl, hx0, hx1, hx2, hx3, hu⟩ := HV.out.both hc j (by rw [HN.out]; exact hlt2)
                  have HI := Lib.hid (show j < hs.length from by rw [HN.out]; exact hlt2)
                  have hok := (HK.out j (by rw [HN.out]; exact hlt2)).1
                  obtain ⟨T, hT⟩ : ∃ T, hs.getD j txrZero = T := ⟨_, rfl⟩
                  rw [hT] at hx0 hx1 hx2 hu hok
                  have HX := Lib.hid (show (hs.getD j txrZero).ops = T.ops from by rw [hT])
                  obtain ⟨ts, tb, tc, xs⟩ := T
                  dsimp only at hx0 hx1 hx2 hu hok HX
                  obtain ⟨A2, c2, rfl⟩ := hu.shape
                  obtain ⟨l, hl⟩ : ∃ l, xs.length = l := ⟨_, rfl⟩
                  rw [hl] at hx3 hu
                  have hll : l ≤ 9223372036854775807 := by have := hu.at.2.1.2; omega
                  have HL := Lib.hid hl
                  have HU := Lib.hid hu
                  have HO := Lib.hid hok
                  have hcA : Ch nob wr (wr.alloc (.cells #[.int .i64 ts, .int .i64 tb, .int .i64 tc, .slice A2 l c2] 118)) := (Ch.refl _ _).alloc _
                  have hmp2 := Lib.hid (hmp.out.keep hcA)
                  have hc2 := hc.seq hcA
                  clear hT hu hc hl hok hmp hcA
                  go_wp2_with fail
                  obtain ⟨wo, hwo⟩ : ∃ wo, wr.alloc (.cells #[.int .i64 ts, .int .i64 tb, .int .i64 tc, .slice A2 l c2] 118) = wo := ⟨_, rfl⟩
                  rw [hwo] at hmp2 hc2 ⊢
                  clear hwo hx0 hx1 hx2 hx3
                  go_loopw [52] (fun x wr => ∃ k : Nat, x = .int .i64 k ∧ k ≤ l ∧ Hid (∀ j, j < k → readOk M (xs.getD j opZero) = true) ∧ Hid (IMap Tryd.prog 3 wr b (wrT hs hs.length) (wmF M)) ∧ Ch nob w wr) (fun x _ => l - (intOf x).toNat)
                  case atStart => exact ⟨0, rfl, Nat.zero_le _, Lib.hid (fun j hj => by omega), hmp2, hc2⟩
                  case round =>
                    clear hc2 hmp2
                    obtain ⟨k, rfl, hk, hst4, hmp, hc⟩ := hrel
                    by_cases hlt3 : k < l
                    · have hd3 : decide ((k : Int) < (l : Int)) = true := decide_eq_true (by omega)
                      obtain ⟨ad2, rfl, hy0, hy1, hy2⟩ := (HU.out.keep hc).at.2.2 k (by rw [HL.out]; exact hlt3)
                      have hwf := HO.out.2 k (by rw [HL.out]; exact hlt3)
                      obtain ⟨x, hx⟩ : ∃ x, xs.getD k opZero = x := ⟨_, rfl⟩
                      rw [hx] at hy0 hy1 hy2 hwf
                      obtain ⟨xw, xk, xv⟩ := x
                      have hcB : Ch nob wr (wr.alloc (.cells #[.bool xw, .int .i64 xk, .int .i64 xv] 121)) := (Ch.refl _ _).alloc _
                      have hm1 := hmp.out.keep hcB
                      have hc3 := hc.seq hcB
                      have HRO := Lib.hid (show readOk M (xs.getD k opZero) = (xw || (xv == 0 || (match M xv with | some y => y.key == xk | none => false))) from by rw [hx]; rfl)
                      have hyes : readOk M (xs.getD k opZero) = true → Hid (∀ j, j < k + 1 → readOk M (xs.getD j opZero) = true) := fun h => Lib.hid (fun j hj => by
                        by_cases e : j = k
                        · rw [e]; exact h
                        · exact hst4.out j (by omega))
                      have HYES := Lib.hid hyes
                      have hno : readOk M (xs.getD k opZero) = false → Hid (chkH hs = 2) := fun h => Lib.hid (chk_read HSM.out HMM.out (all_no HI.out (by
                        rw [HX.out]; exact all_no (show k < xs.length from by rw [HL.out]; exact hlt3) h)))
                      have HNO := Lib.hid hno
                      clear hx hc hcB hyes hno hmp
                      cases hMx : M xv with
                      | none =>
                        have hlk : wmF M xv = none := by unfold wmF; rw [hMx]; rfl
                        have HR2 := Lib.hid (show readOk M (xs.getD k opZero) = (xw || (xv == 0 || false)) from by rw [HRO.out, hMx])
                        clear hMx HRO
                        have hcW : Ch nob (wr.alloc (.cells #[.bool xw, .int .i64 xk, .int .i64 xv] 121)) ((wr.alloc (.cells #[.bool xw, .int .i64 xk, .int .i64 xv] 121)).alloc (.cells #[.int .i64 0, .int .i64 0, .bool false] 163)) := (Ch.refl _ _).alloc _
                        have hm9 := Lib.hid (hm1.keep hcW)
                        have hc9 := hc3.seq hcW
                        cases xw with
                        | true =>
                          have HT := HYES.out (by rw [HR2.out]; rfl)
                          go_wp2_with (at_lookup; refine wpList_imap_look _ rfl _ _ 112 rfl 3 163 under_int under_miw _ (zero_w _) _ _ _ rfl hm1 _ rfl hwf ?_; rw [hlk]; simp only [Option.getD_none, Option.getD_some, Option.isSome_none, Option.isSome_some])
                          go_roundw
                          case rel => exact ⟨k + 1, by go_num, by omega, HT, hm9, hc9⟩
                          case measure => simp [intOf]; omega
                        | false =>
                          cases hx0 : (xv == 0) with
                          | true =>
                            have hx1 : (xv != 0) = false := by unfold bne; rw [hx0]; rfl
                            have HT := HYES.out (by rw [HR2.out, hx0]; rfl)
                            go_wp2_with (at_lookup; refine wpList_imap_look _ rfl _ _ 112 rfl 3 163 under_int under_miw _ (zero_w _) _ _ _ rfl hm1 _ rfl hwf ?_; rw [hlk]; simp only [Option.getD_none, Option.getD_some, Option.isSome_none, Option.isSome_some])
                            go_roundw
                            case rel => exact ⟨k + 1, by go_num, by omega, HT, hm9, hc9⟩
                            case measure => simp [intOf]; omega
                          | false =>
                            have hx1 : (xv != 0) = true := by unfold bne; rw [hx0]; rfl
                            have HF := HNO.out (by rw [HR2.out, hx0]; rfl)
                            go_wp2_with (at_lookup; refine wpList_imap_look _ rfl _ _ 112 rfl 3 163 under_int under_miw _ (zero_w _) _ _ _ rfl hm1 _ rfl hwf ?_; rw [hlk]; simp only [Option.getD_none, Option.getD_some, Option.isSome_none, Option.isSome_some])
                            go_ret
                            exact ⟨ret_int HF.out.symm, hc9⟩
                      | some y =>
                        obtain ⟨yt, yk, yl⟩ := y
                        have hlk : wmF M xv = some (.agg #[.int .i64 yt, .int .i64 yk, .bool yl]) := by unfold wmF; rw [hMx]; rfl
                        have HR2 := Lib.hid (show readOk M (xs.getD k opZero) = (xw || (xv == 0 || yk == xk)) from by rw [HRO.out, hMx])
                        clear hMx HRO
                        have hcW : Ch nob (wr.alloc (.cells #[.bool xw, .int .i64 xk, .int .i64 xv] 121)) ((wr.alloc (.cells #[.bool xw, .int .i64 xk, .int .i64 xv] 121)).alloc (.cells #[.int .i64 yt, .int .i64 yk, .bool yl] 163)) := (Ch.refl _ _).alloc _
                        have hm9 := Lib.hid (hm1.keep hcW)
                        have hc9 := hc3.seq hcW
                        cases xw with
                        | true =>
                          have HT := HYES.out (by rw [HR2.out]; rfl)
                          go_wp2_with (at_lookup; refine wpList_imap_look _ rfl _ _ 112 rfl 3 163 under_int under_miw _ (zero_w _) _ _ _ rfl hm1 _ rfl hwf ?_; rw [hlk]; simp only [Option.getD_none, Option.getD_some, Option.isSome_none, Option.isSome_some])
                          go_roundw
                          case rel => exact ⟨k + 1, by go_num, by omega, HT, hm9, hc9⟩
                          case measure => simp [intOf]; omega
                        | false =>
                          cases hx0 : (xv == 0) with
                          | true =>
                            have hx1 : (xv != 0) = false := by unfold bne; rw [hx0]; rfl
                            have HT := HYES.out (by rw [HR2.out, hx0]; rfl)
                            go_wp2_with (at_lookup; refine wpList_imap_look _ rfl _ _ 112 rfl 3 163 under_int under_miw _ (zero_w _) _ _ _ rfl hm1 _ rfl hwf ?_; rw [hlk]; simp only [Option.getD_none, Option.getD_some, Option.isSome_none, Option.isSome_some])
                            go_roundw
                            case rel => exact ⟨k + 1, by go_num, by omega, HT, hm9, hc9⟩
                            case measure => simp [intOf]; omega
                          | false =>
                            have hx1 : (xv != 0) = true := by unfold bne; rw [hx0]; rfl
                            cases hy3 : (yk == xk) with
                            | true =>
                              have hy4 : (yk != xk) = false := by unfold bne; rw [hy3]; rfl
                              have HT := HYES.out (by rw [HR2.out, hx0, hy3]; rfl)
                              go_wp2_with (at_lookup; refine wpList_imap_look _ rfl _ _ 112 rfl 3 163 under_int under_miw _ (zero_w _) _ _ _ rfl hm1 _ rfl hwf ?_; rw [hlk]; simp only [Option.getD_none, Option.getD_some, Option.isSome_none, Option.isSome_some])
                              go_roundw
                              case rel => exact ⟨k + 1, by go_num, by omega, HT, hm9, hc9⟩
                              case measure => simp [intOf]; omega
                            | false =>
                              have hy4 : (yk != xk) = true := by unfold bne; rw [hy3]; rfl
                              have HF := HNO.out (by rw [HR2.out, hx0, hy3]; rfl)
                              go_wp2_with (at_lookup; refine wpList_imap_look _ rfl _ _ 112 rfl 3 163 under_int under_miw _ (zero_w _) _ _ _ rfl hm1 _ rfl hwf ?_; rw [hlk]; simp only [Option.getD_none, Option.getD_some, Option.isSome_none, Option.isSome_some])
                              go_ret
                              exact ⟨ret_int HF.out.symm, hc9⟩
                    · have hd3 : decide ((k : Int) < (l : Int)) = false := decide_eq_false (by omega)
                      obtain rfl : k = l := by omega
                      have HT := Lib.hid (show ∀ i, i < j + 1 → readsOk M (hs.getD i txrZero).ops = true from fun i hi => by
                        by_cases e : i = j
                        · rw [e, HX.out]; exact all_yes (fun q hq => hst4.out q (by have := HL.out; omega))
                        · exact hst3.out i (by omega))
                      go_wp2_with fail
                      go_roundw
                      case rel => exact ⟨j + 1, by go_num, by omega, HT, hmp, hc⟩
                      case measure => simp [intOf]; omega
                · have hd2 : decide ((j : Int) < (n : Int)) = false := decide_eq_false (by omega)
                  have HF := Lib.hid (chk_ok HSM.out HALL.out HMM.out HST.out (all_yes (fun q hq => hst3.out q (by have := HN.out; omega))))
                  go_wp2_with fail
                  go_ret
                  exact ⟨ret_int HF.out.symm, hc⟩
          · have HF := Lib.hid (chk_twice HSM.out hM)
            clear hM HW
            go_wp2_with fail
            go_ret
            exact ⟨ret_int HF.out.symm, hc3⟩
end Go.Proofs.YtlhfpnkfapghoaaDoor
end

section
/- Who writes what of a history, and how often, by the document. No condition but each theorem's own. -/
set_option linter.unusedVariables false
set_option linter.unusedSimpArgs false
namespace Go.Proofs.YtlhfpnkfapghoaaDoor
open Go.RowKit Go.Maps

/-- The value of the first one of a key; 0: none. -/
def firstVal : List Opn → Int → Int
  | [], _ => 0
  | x :: l, k => if x.key = k then x.val else firstVal l k
theorem drop_at {ys : List Opn} {i : Nat} (hi : i < ys.length) {x : Opn} (hx : ys.getD i opZero = x) : ys.drop i = x :: ys.drop (i + 1) := by
  rw [List.getD_eq_getElem?_getD, List.getElem?_eq_getElem hi, Option.getD_some] at hx
  rw [← hx]
  exact List.drop_eq_getElem_cons hi
def valR (xs : List Opn) (k : Int) : Int := firstVal (writesR xs 64) k
set_option maxRecDepth 100000 in
set_option maxHeartbeats 1000000 in
theorem value_ref05 (w : World) (v : Value) (xs : List Opn) (k : Int) (hv : Opl w v xs) (hn : xs.length ≤ 10000) : Calls Tryd.prog 127 #[v, .int .i64 k] w fun e w' => e = .returned (.int .i64 (valR xs k)) ∧ Ch nob w w' := by
  have HV := Lib.hid (writes_ref05 w v xs hv hn)
  have HR := Lib.hid (show valR xs k = firstVal (writesR xs 64) k from rfl)
  obtain ⟨ys, hys⟩ : ∃ ys, writesR xs 64 = ys := ⟨_, rfl⟩
  rw [hys] at HV HR
  clear hv hn hys
  go_enter Tryd.func127, Tryd.ntmps127
  go_wp2_with fail
  refine HV.out.mono ?_
  rintro e w1 ⟨v1, rfl, ho, hc1⟩
  obtain ⟨A, c, hv1⟩ := ho.opl.shape
  obtain ⟨q, hq⟩ : ∃ q, ys.length = q := ⟨_, rfl⟩
  have hql : q ≤ 9223372036854775807 := by rw [← hq]; exact ho.len
  have HQ := Lib.hid hq
  rw [hq] at hv1
  subst hv1
  have HO := Lib.hid ho.opl
  clear ho hq HV
  go_wp2_with fail
  go_loopw [6] (fun x wr => ∃ i : Nat, x = .int .i64 i ∧ i ≤ q ∧ Hid (firstVal ys k = firstVal (ys.drop i) k) ∧ w1 = wr) (fun x _ => q - (intOf x).toNat)
  case atStart => exact ⟨0, rfl, Nat.zero_le _, Lib.hid rfl, rfl⟩
  case round =>
    obtain ⟨i, rfl, hi, hf, rfl⟩ := hrel
    by_cases hlt : i < q
    · have hd : decide ((i : Int) < (q : Int)) = true := decide_eq_true (by omega)
      obtain ⟨ad, rfl, hx0, hx1, hx2⟩ := HO.out.at.2.2 i (by rw [HQ.out]; exact hlt)
      have hdr := drop_at (show i < ys.length from by rw [HQ.out]; exact hlt) rfl
      obtain ⟨x, hx⟩ : ∃ x, ys.getD i opZero = x := ⟨_, rfl⟩
      rw [hx] at hx0 hx1 hx2 hdr
      have HD := Lib.hid (show firstVal ys k = if x.key = k then x.val else firstVal (ys.drop (i + 1)) k from by rw [hf.out, hdr]; rfl)
      obtain ⟨xw, xk, xv⟩ := x
      clear hx hdr
      by_cases e : xk = k
      · have de : (xk == k) = true := by simp [e]
        have HF := Lib.hid (show valR xs k = xv from by rw [HR.out, HD.out, if_pos e])
        clear e
        go_wp2_with fail
        go_ret
        exact ⟨ret_int HF.out.symm, hc1⟩
      · have de : (xk == k) = false := by simp [e]
        have HF := Lib.hid (show firstVal ys k = firstVal (ys.drop (i + 1)) k from by rw [HD.out, if_neg e])
        clear e
        go_wp2_with fail
        go_roundw
        case rel => exact ⟨i + 1, by go_num, by omega, HF, trivial⟩
        case measure => simp [intOf]; omega
    · have hd : decide ((i : Int) < (q : Int)) = false := decide_eq_false (by omega)
      have HF := Lib.hid (show valR xs k = 0 from by rw [HR.out, hf.out, List.drop_eq_nil_of_le (by rw [HQ.out]; omega)]; rfl)
      go_wp2_with fail
      go_ret
      exact ⟨ret_int HF.out.symm, hc1⟩
set_option maxHeartbeats 1000000 in
theorem last_ref06 (w : World) (v : Value) (xs : List Opn) (s b c k u z : Int) (hz : valR xs k = z) (hv : Opl w v xs) (hn : xs.length ≤ 10000) : Calls Tryd.prog 131 #[.agg #[.int .i64 s, .int .i64 b, .int .i64 c, v], .int .i64 k, .int .i64 u] w fun e w' => e = .returned (.bool (z == u)) ∧ Ch nob w w' := by
  obtain ⟨A, cp, rfl⟩ := hv.shape
  obtain ⟨n, hn2⟩ : ∃ n, xs.length = n := ⟨_, rfl⟩
  rw [hn2] at hv ⊢
  obtain ⟨_, hc0, _⟩ := one_new w #[.int .i64 s, .int .i64 b, .int .i64 c, .slice A n cp] 118
  have HV := value_ref05 _ _ xs k (hv.keep hc0) hn
  rw [hz] at HV
  have HV2 := Lib.hid HV
  clear hv hn hn2 HV hz
  go_enter Tryd.func131, Tryd.ntmps131
  go_wp2_with fail
  refine HV2.out.mono ?_
  rintro e w1 ⟨rfl, hc1⟩
  have hc2 := hc0.seq hc1
  clear HV2
  go_wp2_with fail
  go_ret
  exact ⟨rfl, hc2⟩

/-! ### How often a value is written -/
def isW (v : Int) (x : Opn) : Bool := x.wr && x.val == v
def tmN (xs : List Opn) (v : Int) : Nat → Nat
  | 0 => 0
  | j + 1 => tmN xs v j + if isW v (xs.getD j opZero) then 1 else 0
theorem tmN_le (xs : List Opn) (v : Int) : ∀ j, tmN xs v j ≤ j
  | 0 => Nat.le_refl _
  | j + 1 => by have := tmN_le xs v j; unfold tmN; split <;> omega
def tmT (hs : List Txr) (v : Int) : Nat → Nat
  | 0 => 0
  | i + 1 => tmT hs v i + tmN (hs.getD i txrZero).ops v (hs.getD i txrZero).ops.length
theorem tmT_le (hs : List Txr) (v : Int) : ∀ i, tmT hs v i ≤ countTo hs i
  | 0 => Nat.le_refl _
  | i + 1 => by have := tmT_le hs v i; have := tmN_le (hs.getD i txrZero).ops v (hs.getD i txrZero).ops.length; unfold tmT countTo; omega
set_option maxHeartbeats 2000000 in
theorem times_ref06 (w : World) (v : Value) (hs : List Txr) (u : Int) (hv : Txns w v hs) (hn : countTo hs hs.length ≤ 1000000) : Calls Tryd.prog 134 #[v, .int .i64 u] w fun e w' => e = .returned (.int .i64 (tmT hs u hs.length)) ∧ w = w' := by
  obtain ⟨A, cp, rfl⟩ := hv.shape
  have HV := Lib.hid hv
  obtain ⟨_, ⟨_, hlen⟩, _⟩ := hv.at
  obtain ⟨n, hn2⟩ : ∃ n, hs.length = n := ⟨_, rfl⟩
  have HN := Lib.hid hn2
  rw [hn2] at HV hlen hn ⊢
  have HC := Lib.hid hn
  clear hv hn2 hn
  go_enter Tryd.func134, Tryd.ntmps134
  go_wp2_with fail
  go_loopw [6, 5] (fun x y wr => ∃ i m : Nat, x = .int .i64 i ∧ y = .int .i64 m ∧ i ≤ n ∧ Hid (m = tmT hs u i) ∧ w = wr) (fun x _ _ => n - (intOf x).toNat)
  case atStart => exact ⟨0, 0, rfl, rfl, Nat.zero_le _, Lib.hid rfl, rfl⟩
  case round =>
    obtain ⟨i, m, rfl, rfl, hi, hm, rfl⟩ := hrel
    by_cases hlt : i < n
    · have hd : decide ((i : Int) < (n : Int)) = true := decide_eq_true (by omega)
      obtain ⟨ad, u2, rfl, hx0, hx1, hx2, hx3, hu⟩ := HV.out.at.2.2 i (by rw [HN.out]; exact hlt)
      obtain ⟨A2, c2, rfl⟩ := hu.shape
      have hle := countTo_mono hs (show i + 1 ≤ n by omega)
      have hcs : countTo hs (i + 1) = countTo hs i + (hs.getD i txrZero).ops.length := rfl
      have hws : tmT hs u (i + 1) = tmT hs u i + tmN (hs.getD i txrZero).ops u (hs.getD i txrZero).ops.length := rfl
      have hwl := tmT_le hs u i
      obtain ⟨xs, hxs⟩ : ∃ xs, (hs.getD i txrZero).ops = xs := ⟨_, rfl⟩
      rw [hxs] at hx3 hu hcs hws
      obtain ⟨l, hl⟩ : ∃ l, xs.length = l := ⟨_, rfl⟩
      rw [hl] at hx3 hu hcs hws
      have hb1 : m + l ≤ 1000000 := by have := HC.out; have := hm.out; omega
      have HWS := Lib.hid (show tmT hs u (i + 1) = m + tmN xs u l from by rw [hws, ← hm.out])
      have HL := Lib.hid hl
      have HU := Lib.hid hu
      clear hu hcs hws hwl hxs hl hle hx0 hx1 hx2
      go_wp2_with fail
      go_loopw [7, 5] (fun x y wr => ∃ j q : Nat, x = .int .i64 j ∧ y = .int .i64 q ∧ j ≤ l ∧ q ≤ m + j ∧ Hid (q = m + tmN xs u j) ∧ w = wr) (fun x _ _ => l - (intOf x).toNat)
      case atStart => exact ⟨0, m, rfl, rfl, Nat.zero_le _, by omega, Lib.hid rfl, rfl⟩
      case round =>
        obtain ⟨j, q, rfl, rfl, hj, hq, hqq, rfl⟩ := hrel
        by_cases hlt2 : j < l
        · have hd2 : decide ((j : Int) < (l : Int)) = true := decide_eq_true (by omega)
          obtain ⟨ad2, rfl, hy0, hy1, hy2⟩ := HU.out.at.2.2 j (by rw [HL.out]; exact hlt2)
          have hsuc : tmN xs u (j + 1) = tmN xs u j + if isW u (xs.getD j opZero) then 1 else 0 := rfl
          obtain ⟨x, hx⟩ : ∃ x, xs.getD j opZero = x := ⟨_, rfl⟩
          rw [hx] at hy0 hy1 hy2 hsuc
          obtain ⟨xw, xk, xv⟩ := x
          have HS := Lib.hid (show m + tmN xs u (j + 1) = q + if (xw && xv == u) then 1 else 0 from by rw [hsuc, hqq.out, Nat.add_assoc]; rfl)
          clear hx hsuc
          cases xw with
          | false =>
            have HQ := Lib.hid (show q = m + tmN xs u (j + 1) from by rw [HS.out]; rfl)
            go_wp2_with fail
            go_roundw
            case rel => exact ⟨j + 1, q, by go_num, rfl, by omega, by omega, HQ, trivial⟩
            case measure => simp [intOf]; omega
          | true =>
            cases he : (xv == u) with
            | false =>
              have HQ := Lib.hid (show q = m + tmN xs u (j + 1) from by rw [HS.out, he]; rfl)
              go_wp2_with fail
              go_roundw
              case rel => exact ⟨j + 1, q, by go_num, rfl, by omega, by omega, HQ, trivial⟩
              case measure => simp [intOf]; omega
            | true =>
              have HQ := Lib.hid (show q + 1 = m + tmN xs u (j + 1) from by rw [HS.out, he]; rfl)
              go_wp2_with fail
              go_roundw
              case rel => exact ⟨j + 1, q + 1, by go_num, by go_num, by omega, by omega, HQ, trivial⟩
              case measure => simp [intOf]; omega
        · have hd2 : decide ((j : Int) < (l : Int)) = false := decide_eq_false (by omega)
          obtain rfl : j = l := by omega
          have HQ := Lib.hid (show q = tmT hs u (i + 1) from by rw [HWS.out, hqq.out])
          go_wp2_with fail
          go_roundw
          case rel => exact ⟨i + 1, q, by go_num, rfl, by omega, HQ, trivial⟩
          case measure => simp [intOf]; omega
    · have hd : decide ((i : Int) < (n : Int)) = false := decide_eq_false (by omega)
      obtain rfl : i = n := by omega
      go_wp2_with fail
      go_ret
      exact ⟨ret_int (by rw [hm.out]), rfl⟩

/-! ### Who writes a value to a key -/
def isWK (k v : Int) (x : Opn) : Bool := x.wr && (x.key == k && x.val == v)
def wroteB (xs : List Opn) (k v : Int) : Bool := (List.range xs.length).any fun j => isWK k v (xs.getD j opZero)
/-- z is the first transaction that writes v to k; -1: none does. -/
def IsWriter (hs : List Txr) (k v z : Int) : Prop := (∃ i : Nat, i < hs.length ∧ z = i ∧ wroteB (hs.getD i txrZero).ops k v = true ∧ ∀ j, j < i → wroteB (hs.getD j txrZero).ops k v = false) ∨ (z = -1 ∧ ∀ j, j < hs.length → wroteB (hs.getD j txrZero).ops k v = false)
theorem any_yes {p : Nat → Bool} {n j : Nat} (hj : j < n) (h : p j = true) : (List.range n).any p = true := by
  rw [List.any_eq_true]; exact ⟨j, List.mem_range.2 hj, h⟩
theorem any_no {p : Nat → Bool} {n : Nat} (h : ∀ j, j < n → p j = false) : (List.range n).any p = false := by
  rw [List.any_eq_false]; intro j hj; rw [h j (List.mem_range.1 hj)]; decide
set_option maxHeartbeats 2000000 in
theorem writer_ref06 (w : World) (v : Value) (hs : List Txr) (key u : Int) (hv : Txns w v hs) (hn : countTo hs hs.length ≤ 1000000) : Calls Tryd.prog 126 #[v, .int .i64 key, .int .i64 u] w fun e w' => ∃ z, e = .returned (.int .i64 z) ∧ IsWriter hs key u z ∧ Ch nob w w' := by
  obtain ⟨A, cp, rfl⟩ := hv.shape
  have HV := Lib.hid hv
  obtain ⟨_, ⟨_, hlen⟩, _⟩ := hv.at
  obtain ⟨n, hn2⟩ : ∃ n, hs.length = n := ⟨_, rfl⟩
  have HN := Lib.hid hn2
  rw [hn2] at HV hlen hn ⊢
  have HC := Lib.hid hn
  clear hv hn2 hn
  go_enter Tryd.func126, Tryd.ntmps126
  go_wp2_with fail
  go_loopw [7] (fun x wr => ∃ i : Nat, x = .int .i64 i ∧ i ≤ n ∧ Hid (∀ j, j < i → wroteB (hs.getD j txrZero).ops key u = false) ∧ Ch nob w wr) (fun x _ => n - (intOf x).toNat)
  case atStart => exact ⟨0, rfl, Nat.zero_le _, Lib.hid (fun j hj => by omega), Ch.refl _ _⟩
  case round =>
    obtain ⟨i, rfl, hi, hst, hc⟩ := hrel
    by_cases hlt : i < n
    · have hd : decide ((i : Int) < (n : Int)) = true := decide_eq_true (by omega)
      have HI := Lib.hid (show i < hs.length from by rw [HN.out]; exact hlt)
      obtain ⟨xs, hxs⟩ : ∃ xs, (hs.getD i txrZero).ops = xs := ⟨_, rfl⟩
      obtain ⟨l, hl⟩ : ∃ l, xs.length = l := ⟨_, rfl⟩
      have HXS := Lib.hid hxs
      have HL := Lib.hid hl
      clear hxs hl
      go_wp2_with fail
      go_loopw [8] (fun x wr => ∃ j : Nat, x = .int .i64 j ∧ j ≤ l ∧ Hid (∀ q, q < j → isWK key u (xs.getD q opZero) = false) ∧ Ch nob w wr) (fun x _ => l - (intOf x).toNat)
      case atStart => exact ⟨0, rfl, Nat.zero_le _, Lib.hid (fun j hj => by omega), hc⟩
      case round =>
        clear hc
        obtain ⟨j, rfl, hj, hst2, hc⟩ := hrel
        obtain ⟨ad, u2, rfl, hx0, hx1, hx2, hx3, hu⟩ := HV.out.both hc i HI.out
        rw [HXS.out] at hu
        obtain ⟨A2, c2, rfl⟩ := hu.shape
        have hll : l ≤ 9223372036854775807 := by have := hu.at.2.1.2; rw [HL.out] at this; exact this
        rw [HL.out] at hx3 hu
        clear hx0 hx1 hx2
        by_cases hlt2 : j < l
        · have hd2 : decide ((j : Int) < (l : Int)) = true := decide_eq_true (by omega)
          obtain ⟨ad2, rfl, hy0, hy1, hy2⟩ := (hu.keep hc).at.2.2 j (by rw [HL.out]; exact hlt2)
          obtain ⟨x, hx⟩ : ∃ x, xs.getD j opZero = x := ⟨_, rfl⟩
          rw [hx] at hy0 hy1 hy2
          obtain ⟨xw, xk, xv⟩ := x
          have hc3 := hc.alloc (.cells #[.bool xw, .int .i64 xk, .int .i64 xv] 121)
          have HS := Lib.hid (show isWK key u (xs.getD j opZero) = (xw && (xk == key && xv == u)) from by rw [hx]; rfl)
          have hno : isWK key u (xs.getD j opZero) = false → Hid (∀ q, q < j + 1 → isWK key u (xs.getD q opZero) = false) := fun h => Lib.hid (fun q hq => by
            by_cases e : q = j
            · rw [e]; exact h
            · exact hst2.out q (by omega))
          have HNO := Lib.hid hno
          clear hx hno hu hc
          cases xw with
          | false =>
            have HT := HNO.out (by rw [HS.out]; rfl)
            go_wp2_with fail
            go_roundw
            case rel => exact ⟨j + 1, by go_num, by omega, HT, hc3⟩
            case measure => simp [intOf]; omega
          | true =>
            cases he : (xk == key) with
            | false =>
              have HT := HNO.out (by rw [HS.out, he]; rfl)
              go_wp2_with fail
              go_roundw
              case rel => exact ⟨j + 1, by go_num, by omega, HT, hc3⟩
              case measure => simp [intOf]; omega
            | true =>
              cases he2 : (xv == u) with
              | false =>
                have HT := HNO.out (by rw [HS.out, he, he2]; rfl)
                go_wp2_with fail
                go_roundw
                case rel => exact ⟨j + 1, by go_num, by omega, HT, hc3⟩
                case measure => simp [intOf]; omega
              | true =>
                have HT := Lib.hid (show IsWriter hs key u (i : Int) from .inl ⟨i, HI.out, rfl, (by rw [HXS.out]; exact any_yes (show j < xs.length from by rw [HL.out]; exact hlt2) (by rw [HS.out, he, he2]; rfl)), hst.out⟩)
                go_wp2_with fail
                go_ret
                exact ⟨_, rfl, HT.out, hc3⟩
        · have hd2 : decide ((j : Int) < (l : Int)) = false := decide_eq_false (by omega)
          obtain rfl : j = l := by omega
          have HT := Lib.hid (show ∀ q, q < i + 1 → wroteB (hs.getD q txrZero).ops key u = false from fun q hq => by
            by_cases e : q = i
            · rw [e, HXS.out]; exact any_no (fun r hr => hst2.out r (by have := HL.out; omega))
            · exact hst.out q (by omega))
          go_wp2_with fail
          go_roundw
          case rel => exact ⟨i + 1, by go_num, by omega, HT, hc⟩
          case measure => simp [intOf]; omega
    · have hd : decide ((i : Int) < (n : Int)) = false := decide_eq_false (by omega)
      have HT := Lib.hid (show IsWriter hs key u (-1) from .inr ⟨rfl, fun j hj => hst.out j (by have := HN.out; omega)⟩)
      go_wp2_with fail
      go_ret
      exact ⟨_, rfl, HT.out, hc⟩
end Go.Proofs.YtlhfpnkfapghoaaDoor
end
