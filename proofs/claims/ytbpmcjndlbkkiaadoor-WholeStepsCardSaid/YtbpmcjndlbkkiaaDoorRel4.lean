/- Relations of numbers below 64: turned. No condition but each theorem's own. -/
import Derived.Test.YtbpmcjndlbkkiaaDoorRel3
set_option linter.unusedVariables false
set_option linter.unusedSimpArgs false
namespace Go.Proofs.YtbpmcjndlbkkiaaDoor
open Go.RowKit
attribute [local go_sem ↓] zero_rel

theorem three_new (w : World) (a b c : Array Value) (T : TypeId) : Blk (((w.alloc (.cells a T)).alloc (.cells b T)).alloc (.cells c T)) w.heap.size a T ∧ Blk (((w.alloc (.cells a T)).alloc (.cells b T)).alloc (.cells c T)) (w.heap.size + 1) b T ∧ Blk (((w.alloc (.cells a T)).alloc (.cells b T)).alloc (.cells c T)) (w.heap.size + 1 + 1) c T ∧ Ch nob w (((w.alloc (.cells a T)).alloc (.cells b T)).alloc (.cells c T)) := by
  obtain ⟨h1, h2, h3, h4⟩ := two_new w a b T T
  obtain ⟨k1, k2, k3⟩ := one_new ((w.alloc (.cells a T)).alloc (.cells b T)) c T
  rw [h4] at k1
  exact ⟨h1.ch k2 (fun h => h), h2.ch k2 (fun h => h), k1, h3.seq k2⟩
/-- Each of some numbers stands to i. -/
def turnRow (s : Nat → Nat) (i : Nat) (l : List Int) (n : Nat) : Nat → Nat := (l.take n).foldl (fun acc k => addR acc k (i : Int)) s
theorem turnRow_zero (s : Nat → Nat) (i : Nat) (l : List Int) : turnRow s i l 0 = s := rfl
theorem turnRow_succ (s : Nat → Nat) (i : Nat) (l : List Int) (n : Nat) (h : n < l.length) : turnRow s i l (n + 1) = addR (turnRow s i l n) (l.getD n 0) (i : Int) := by
  unfold turnRow
  rw [List.take_add_one, List.getElem?_eq_getElem h, List.foldl_append, List.getD_eq_getElem?_getD, List.getElem?_eq_getElem h]
  rfl
theorem turnRow_ok {s : Nat → Nat} (ok : RelOK s) (i : Nat) (l : List Int) (n : Nat) : RelOK (turnRow s i l n) := by
  unfold turnRow
  suffices h : ∀ (xs : List Int) (s : Nat → Nat), RelOK s → RelOK (xs.foldl (fun acc k => addR acc k (i : Int)) s) from h _ _ ok
  intro xs
  induction xs with
  | nil => intro s hs; exact hs
  | cons x xs ih => intro s hs; exact ih _ (addR_ok hs _ _)
def turnTo (r : Nat → Nat) : Nat → (Nat → Nat)
  | 0 => fun _ => 0
  | i + 1 => turnRow (turnTo r i) i (listS (r i)) (listS (r i)).length
theorem turnTo_ok (r : Nat → Nat) : ∀ i, RelOK (turnTo r i)
  | 0 => fun _ => by show 0 < _; decide
  | i + 1 => turnRow_ok (turnTo_ok r i) _ _ _
theorem turned_rel (r : Nat → Nat) (okr : RelOK r) (w : World) (hT : Tab w) : Calls Tryd.prog 26 #[.agg (relArr r)] w fun e w' => e = .returned (.agg (relArr (turnTo r 64))) ∧ Ch nob w w' := by
  obtain ⟨hr1, hz1, ho1, hc1⟩ := three_new w (relArr r) (relArr fun _ => 0) (relArr fun _ => 0) 27
  go_enter Tryd.func26, Tryd.ntmps26
  go_wp2_with (refine wpList_load_row rfl 27 (.tmp 1) rfl w.heap.size rfl 27 (relArr r) (0, 0) _ hr1 rfl rfl (by rw [relArr_size]; kernel_rfl) ?_)
  generalize ((w.alloc _).alloc _).alloc _ = w1 at hr1 hz1 ho1 hc1 ⊢
  clear hr1
  go_loopw [9] (fun q wr => ∃ i : Nat, q = .int .i64 i ∧ i ≤ 64 ∧ Blk wr (w.heap.size + 1) (relArr fun _ => 0) 27 ∧ Blk wr (w.heap.size + 1 + 1) (relArr (turnTo r i)) 27 ∧ Ch nob w wr) (fun q _ => 64 - (intOf q).toNat)
  case atStart => exact ⟨0, rfl, by omega, hz1, ho1, hc1⟩
  case round =>
    clear hz1 ho1 hc1
    obtain ⟨i, rfl, hi, hz, ho, hc⟩ := hrel
    by_cases hlt : i < 64
    · have hd : decide ((i : Int) < 64) = true := decide_eq_true (by omega)
      have hix := index_rel r i hlt
      have oi := okr i
      have okt := turnTo_ok r i
      have HN := Lib.hid (show turnTo r (i + 1) = turnRow (turnTo r i) i (listS (r i)) (listS (r i)).length from rfl)
      obtain ⟨s, hse⟩ : ∃ s, turnTo r i = s := ⟨_, rfl⟩
      rw [hse] at ho okt HN
      clear hse
      go_wp2_with fail
      refine (list_set (r i) _ oi (hT.keep hc)).mono ?_
      rintro e w2 ⟨v, rfl, hov, hc2⟩
      have hl := hov.ints
      obtain ⟨A, cc, rfl⟩ := hl.shape
      have hlo := ho.lt
      have HB := Lib.hid (show ∀ b, (Value.slice A (listS (r i)).length cc).ownBlock = some b → w.heap.size + 1 + 1 < b from fun b hb => by have := (hov.ge b hb).1; omega)
      have hz2 := hz.ch hc2 (fun h => h)
      have ho2 := ho.ch hc2 (fun h => h)
      have hc3 := hc.seq hc2
      clear hz ho hc hc2 hov
      go_wp2_with fail
      go_loopw [16] (fun q wr => ∃ j : Nat, q = .int .i64 j ∧ j ≤ (listS (r i)).length ∧ Blk wr (w.heap.size + 1) (relArr fun _ => 0) 27 ∧ Blk wr (w.heap.size + 1 + 1) (relArr (turnRow s i (listS (r i)) j)) 27 ∧ Ints wr (.slice A (listS (r i)).length cc) (listS (r i)) ∧ Ch nob w wr) (fun q _ => (listS (r i)).length - (intOf q).toNat)
      case atStart => exact ⟨0, rfl, by omega, hz2, ho2, hl, hc3⟩
      case round =>
        clear hz2 ho2 hl hc3
        obtain ⟨j, rfl, hj, hz, ho, hl, hc⟩ := hrel
        by_cases hltj : j < (listS (r i)).length
        · have hd2 : decide ((j : Int) < ((listS (r i)).length : Int)) = true := decide_eq_true (by omega)
          obtain ⟨_, _, hcells⟩ := hl.at
          obtain ⟨ad, rfl, hx⟩ := hcells j hltj
          clear hcells
          have HS := Lib.hid (turnRow_succ s i (listS (r i)) j hltj)
          generalize (listS (r i)).getD j 0 = z at hx HS
          go_wp2_with fail
          refine (add_rel _ (turnRow_ok okt i (listS (r i)) j) (w.heap.size + 1 + 1) z (i : Int) _ ho).mono ?_
          rintro e w3 ⟨rfl, ho3, hch⟩
          rw [← HS.out] at ho3
          have hz3 := hz.ch hch (by omega)
          have hl3 := hl.ch hch (fun b hb he => by have h1 := HB.out b hb; have h2 : b = w.heap.size + 1 + 1 := he; omega)
          have hc3 := hc.fresh hch (by omega)
          clear hz ho hl hc hch hx
          go_wp2_with fail
          go_roundw
          case rel => exact ⟨j + 1, by go_num, by omega, hz3, ho3, hl3, hc3⟩
          case measure => simp [intOf]; omega
        · obtain rfl : j = (listS (r i)).length := by omega
          rw [← HN.out] at ho
          go_wp2_with fail
          go_roundw
          case rel => exact ⟨i + 1, by go_num, by omega, hz, ho, hc⟩
          case measure => simp [intOf]; omega
    · obtain rfl : i = 64 := by omega
      have hsz : (relArr (turnTo r 64)).size = 64 := relArr_size _
      have hce := relArr_cells (turnTo r 64)
      obtain ⟨C, hC⟩ : ∃ C, relArr (turnTo r 64) = C := ⟨_, rfl⟩
      have HC := Lib.hid hC
      rw [hC] at hsz hce ho
      obtain ⟨Z, hZ⟩ : ∃ Z, (relArr fun _ => 0) = Z := ⟨_, rfl⟩
      have hzz : Z.size = 64 := by rw [← hZ]; exact relArr_size _
      rw [hZ] at hz
      clear hC hZ
      go_wp2_with (first | (refine wpList_load_row rfl 27 (.tmp 3) rfl (w.heap.size + 1 + 1) rfl 27 C (0, 0) _ ho rfl rfl (by rw [hsz]; kernel_rfl) ?_) | (refine wpList_store_row rfl 27 (.tmp 2) (.tmp 25) rfl (w.heap.size + 1) C rfl rfl 27 _ hz (by rw [hsz]; kernel_rfl) (by rw [hzz, hsz]) hce ?_))
      have hz3 := hz.row C
      have hc3 := hc.setRow (w.heap.size + 1) C (fun h => by omega)
      exact bodyPost_ret (v := .agg C) (results_cell_row rfl _ _ (w.heap.size + 1) 27 C (0, 0) _ rfl hz3 rfl rfl (by rw [hsz]; kernel_rfl)) rfl ⟨by rw [HC.out], hc3⟩
end Go.Proofs.YtbpmcjndlbkkiaaDoor
