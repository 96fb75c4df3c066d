/- Relations of numbers below 64: one behind the other, turned, and of a row. No condition but each theorem's own. -/
import Derived.Test.YtbpmcjndlbkkiaaDoorRel2
set_option linter.unusedVariables false
set_option linter.unusedSimpArgs false
namespace Go.Proofs.YtbpmcjndlbkkiaaDoor
open Go.RowKit
attribute [local go_sem ↓] zero_rel

theorem listS_at (s k : Nat) (h : k < (listS s).length) : ∃ m : Nat, (listS s).getD k 0 = (m : Int) ∧ m < 64 := by
  unfold listS at h ⊢
  rw [List.length_map] at h
  rw [List.getD_eq_getElem?_getD, List.getElem?_map, List.getElem?_eq_getElem h]
  exact ⟨(Bits.list s)[k], rfl, ((Bits.mem_list s _).1 (List.getElem_mem h)).1⟩
/-- The rows of some numbers, put together. -/
def orTo (t : Nat → Nat) (l : List Int) (n : Nat) : Nat := (l.take n).foldl (fun acc k => acc ||| t k.toNat) 0
theorem orTo_zero (t : Nat → Nat) (l : List Int) : orTo t l 0 = 0 := rfl
theorem orTo_succ (t : Nat → Nat) (l : List Int) (n : Nat) (h : n < l.length) : orTo t l (n + 1) = orTo t l n ||| t (l.getD n 0).toNat := by
  unfold orTo
  rw [List.take_add_one, List.getElem?_eq_getElem h, List.foldl_append, List.getD_eq_getElem?_getD, List.getElem?_eq_getElem h]
  rfl
theorem orTo_lt {t : Nat → Nat} (ok : RelOK t) (l : List Int) (n : Nat) : orTo t l n < 18446744073709551616 := by
  unfold orTo
  suffices h : ∀ (xs : List Int) (a : Nat), a < 18446744073709551616 → xs.foldl (fun acc k => acc ||| t k.toNat) a < 18446744073709551616 from h _ 0 (by decide)
  intro xs
  induction xs with
  | nil => intro a ha; exact ha
  | cons x xs ih => intro a ha; exact ih _ (or_ok ha (ok _))
def thenR (r t : Nat → Nat) : Nat → Nat := fun i => orTo t (listS (r i)) (listS (r i)).length
theorem thenR_ok (r : Nat → Nat) {t : Nat → Nat} (ok : RelOK t) : RelOK (thenR r t) := fun i => orTo_lt ok _ _
def thenAt (r t : Nat → Nat) (i j : Nat) : Nat → Nat := fun k => if k < i then thenR r t k else if k = i then orTo t (listS (r i)) j else 0
theorem thenAt_start (r t : Nat → Nat) : thenAt r t 0 0 = fun _ => 0 := by
  funext k
  unfold thenAt
  rw [if_neg (by omega), orTo_zero]
  split <;> rfl
theorem thenAt_here (r t : Nat → Nat) (i j : Nat) : thenAt r t i j i = orTo t (listS (r i)) j := by unfold thenAt; rw [if_neg (by omega), if_pos rfl]
theorem thenAt_step (r t : Nat → Nat) (i j : Nat) (h : j < (listS (r i)).length) : rowSet (thenAt r t i j) i (orTo t (listS (r i)) j ||| t ((listS (r i)).getD j 0).toNat) = thenAt r t i (j + 1) := by
  funext k
  unfold rowSet
  by_cases hk : k = i
  · subst hk
    rw [if_pos rfl, thenAt_here, orTo_succ t _ j h]
  · rw [if_neg hk]
    unfold thenAt
    rw [if_neg hk, if_neg hk]
theorem thenAt_next (r t : Nat → Nat) (i : Nat) : thenAt r t i (listS (r i)).length = thenAt r t (i + 1) 0 := by
  funext k
  unfold thenAt
  by_cases h : k < i
  · rw [if_pos h, if_pos (by omega)]
  · by_cases h2 : k = i
    · subst h2
      rw [if_neg h, if_pos rfl, if_pos (by omega)]; rfl
    · rw [if_neg h, if_neg h2, if_neg (by omega), orTo_zero]
      split <;> rfl
theorem thenAt_end (r t : Nat → Nat) : relArr (thenAt r t 64 0) = relArr (thenR r t) := relArr_ext fun k hk => by unfold thenAt; rw [if_pos hk]
theorem four_new (w : World) (a b c d : Array Value) (T : TypeId) : Blk ((((w.alloc (.cells a T)).alloc (.cells b T)).alloc (.cells c T)).alloc (.cells d T)) w.heap.size a T ∧ Blk ((((w.alloc (.cells a T)).alloc (.cells b T)).alloc (.cells c T)).alloc (.cells d T)) (w.heap.size + 1) b T ∧ Blk ((((w.alloc (.cells a T)).alloc (.cells b T)).alloc (.cells c T)).alloc (.cells d T)) (w.heap.size + 1 + 1) c T ∧ Blk ((((w.alloc (.cells a T)).alloc (.cells b T)).alloc (.cells c T)).alloc (.cells d T)) (w.heap.size + 1 + 1 + 1) d T ∧ Ch nob w ((((w.alloc (.cells a T)).alloc (.cells b T)).alloc (.cells c T)).alloc (.cells d T)) := by
  obtain ⟨h1, h2, h3, h4⟩ := two_new w a b T T
  obtain ⟨k1, k2, k3, k4⟩ := two_new ((w.alloc (.cells a T)).alloc (.cells b T)) c d T T
  rw [h4] at k1 k2
  exact ⟨h1.ch k3 (fun h => h), h2.ch k3 (fun h => h), k1, k2, h3.seq k3⟩

theorem then_rel (r t : Nat → Nat) (okr : RelOK r) (okt : RelOK t) (w : World) (hT : Tab w) : Calls Tryd.prog 24 #[.agg (relArr r), .agg (relArr t)] w fun e w' => e = .returned (.agg (relArr (thenR r t))) ∧ Ch nob w w' := by
  obtain ⟨hr1, ht1, hz1, ho1, hc1⟩ := four_new w (relArr r) (relArr t) (relArr fun _ => 0) (relArr fun _ => 0) 27
  go_enter Tryd.func24, Tryd.ntmps24
  go_wp2_with (refine wpList_load_row rfl 27 (.tmp 2) rfl w.heap.size rfl 27 (relArr r) (0, 0) _ hr1 rfl rfl (by rw [relArr_size]; kernel_rfl) ?_)
  generalize (((w.alloc _).alloc _).alloc _).alloc _ = w1 at hr1 ht1 hz1 ho1 hc1 ⊢
  clear hr1
  rw [← thenAt_start r t] at ho1
  go_loopw [11] (fun q wr => ∃ i : Nat, q = .int .i64 i ∧ i ≤ 64 ∧ Blk wr (w.heap.size + 1) (relArr t) 27 ∧ Blk wr (w.heap.size + 1 + 1) (relArr fun _ => 0) 27 ∧ Blk wr (w.heap.size + 1 + 1 + 1) (relArr (thenAt r t i 0)) 27 ∧ Ch nob w wr) (fun q _ => 64 - (intOf q).toNat)
  case atStart => exact ⟨0, rfl, by omega, ht1, hz1, ho1, hc1⟩
  case round =>
    clear ht1 hz1 ho1 hc1
    obtain ⟨i, rfl, hi, ht, hz, ho, hc⟩ := hrel
    by_cases hlt : i < 64
    · have hd : decide ((i : Int) < 64) = true := decide_eq_true (by omega)
      have hix := index_rel r i hlt
      have oi := okr i
      have HN := Lib.hid (thenAt_next r t i)
      go_wp2_with fail
      refine (list_set (r i) _ oi (hT.keep hc)).mono ?_
      rintro e w2 ⟨v, rfl, hov, hc2⟩
      have hl := Lib.hid hov.ints
      obtain ⟨A, cc, rfl⟩ := hl.out.shape
      have hlo := ho.lt
      have HB := Lib.hid (show ∀ b, (Value.slice A (listS (r i)).length cc).ownBlock = some b → w.heap.size + 1 + 1 + 1 < b from fun b hb => by have := (hov.ge b hb).1; omega)
      have ht2 := ht.ch hc2 (fun h => h)
      have hz2 := hz.ch hc2 (fun h => h)
      have ho2 := ho.ch hc2 (fun h => h)
      have hc3 := hc.seq hc2
      clear ht hz ho hc hc2 hov
      go_wp2_with fail
      go_loopw [18] (fun q wr => ∃ j : Nat, q = .int .i64 j ∧ j ≤ (listS (r i)).length ∧ Blk wr (w.heap.size + 1) (relArr t) 27 ∧ Blk wr (w.heap.size + 1 + 1) (relArr fun _ => 0) 27 ∧ Blk wr (w.heap.size + 1 + 1 + 1) (relArr (thenAt r t i j)) 27 ∧ Ints wr (.slice A (listS (r i)).length cc) (listS (r i)) ∧ Ch nob w wr) (fun q _ => (listS (r i)).length - (intOf q).toNat)
      case atStart => exact ⟨0, rfl, by omega, ht2, hz2, ho2, hl.out, hc3⟩
      case round =>
        clear ht2 hz2 ho2 hl hc3
        obtain ⟨j, rfl, hj, ht, hz, ho, hl, hc⟩ := hrel
        by_cases hltj : j < (listS (r i)).length
        · have hd2 : decide ((j : Int) < ((listS (r i)).length : Int)) = true := decide_eq_true (by omega)
          obtain ⟨_, _, hcells⟩ := hl.at
          obtain ⟨ad, rfl, hx⟩ := hcells j hltj
          clear hcells
          obtain ⟨m, hm, hm64⟩ := listS_at (r i) j hltj
          have HS := Lib.hid (thenAt_step r t i j hltj)
          rw [hm] at hx HS
          have hxa := ho.relAt i hlt
          rw [thenAt_here] at hxa
          have hxb := ht.relAt m hm64
          have hf := ho.free i
          have hor := Bits.or_u64 (orTo t (listS (r i)) j) (t m) (orTo_lt okt _ _) (okt m)
          have ho3 := ho.relSet i (orTo t (listS (r i)) j ||| t m)
          have HE := Lib.hid (show rowSet (thenAt r t i j) i (orTo t (listS (r i)) j ||| t m) = thenAt r t i (j + 1) from HS.out)
          rw [HE.out] at ho3
          generalize orTo t (listS (r i)) j = q at hxa hor ho3 ⊢
          have hch : Ch (· = w.heap.size + 1 + 1 + 1) wr (wr.setCell ⟨w.heap.size + 1 + 1 + 1, i, none⟩ (.int .u64 (q ||| t m : Nat))) := (Ch.refl _ _).setCell _ _ (fun _ => rfl)
          have ht3 := ht.ch hch (by omega)
          have hz3 := hz.ch hch (by omega)
          have hl3 := hl.ch hch (fun b hb he => by have h1 := HB.out b hb; have h2 : b = w.heap.size + 1 + 1 + 1 := he; omega)
          have hc3 := hc.setCell ⟨w.heap.size + 1 + 1 + 1, i, none⟩ (.int .u64 (q ||| t m : Nat)) (fun h => by simp at h; omega)
          clear ht hz ho hl hc hch hm HS HE
          go_wp2_with fail
          go_region_with fail
          all_goals
            go_wp2_with fail
            go_roundw
            case rel => exact ⟨j + 1, by go_num, by omega, ht3, hz3, ho3, hl3, hc3.drew⟩
            case measure => simp [intOf]; omega
        · obtain rfl : j = (listS (r i)).length := by omega
          rw [HN.out] at ho
          go_wp2_with fail
          go_roundw
          case rel => exact ⟨i + 1, by go_num, by omega, ht, hz, ho, hc⟩
          case measure => simp [intOf]; omega
    · obtain rfl : i = 64 := by omega
      rw [thenAt_end] at ho
      have hsz : (relArr (thenR r t)).size = 64 := relArr_size _
      have hce := relArr_cells (thenR r t)
      obtain ⟨C, hC⟩ : ∃ C, relArr (thenR r t) = C := ⟨_, rfl⟩
      have HC := Lib.hid hC
      rw [hC] at hsz hce ho
      obtain ⟨Z, hZ⟩ : ∃ Z, (relArr fun _ => 0) = Z := ⟨_, rfl⟩
      have hzz : Z.size = 64 := by rw [← hZ]; exact relArr_size _
      rw [hZ] at hz
      clear hC hZ
      go_wp2_with (first | (refine wpList_load_row rfl 27 (.tmp 5) rfl (w.heap.size + 1 + 1 + 1) rfl 27 C (0, 0) _ ho rfl rfl (by rw [hsz]; kernel_rfl) ?_) | (refine wpList_store_row rfl 27 (.tmp 4) (.tmp 32) rfl (w.heap.size + 1 + 1) C rfl rfl 27 _ hz (by rw [hsz]; kernel_rfl) (by rw [hzz, hsz]) hce ?_))
      have hz3 := hz.row C
      have hc3 := hc.setRow (w.heap.size + 1 + 1) C (fun h => by omega)
      exact bodyPost_ret (v := .agg C) (results_cell_row rfl _ _ (w.heap.size + 1 + 1) 27 C (0, 0) _ rfl hz3 rfl rfl (by rw [hsz]; kernel_rfl)) rfl ⟨by rw [HC.out], hc3⟩
end Go.Proofs.YtbpmcjndlbkkiaaDoor
