/- Relations of numbers below 64: a row as a relation. No condition but each theorem's own. -/
import Derived.Test.YtbpmcjndlbkkiaaDoorRelCyc
set_option linter.unusedVariables false
set_option linter.unusedSimpArgs false
namespace Go.Proofs.YtbpmcjndlbkkiaaDoor
open Go.RowKit
attribute [local go_sem ↓] zero_rel

theorem IntsK.drop {k : IntKind} {w : World} {A : Option Addr} {c : Nat} {xs : List Int} (h : IntsK k w (.slice A xs.length c) xs) (i : Nat) (hi : i ≤ xs.length) (B : Option Addr)
    (hB : i < xs.length → ∀ ad, A = some ad → B = some (ad.add i)) : IntsK k w (.slice B (xs.length - i) (c - i)) (xs.drop i) := by
  obtain ⟨_, hl, hc⟩ := h.at
  refine ⟨B, c - i, by rw [List.length_drop], by have := h.cap; rw [List.length_drop]; omega, fun h0 => ?_⟩
  rw [List.length_drop] at h0
  obtain ⟨ad, rfl, _⟩ := hc i (by omega)
  refine ⟨_, hB (by omega) ad rfl, fun j hj => ?_⟩
  rw [List.length_drop] at hj
  obtain ⟨ad', he, hx⟩ := hc (i + j) (by omega)
  obtain rfl : ad = ad' := by simpa using he
  have e : (ad.add i).add j = ad.add (i + j) := by
    unfold Addr.add
    by_cases h1 : i = 0
    · subst h1; simp
    · by_cases h2 : j = 0
      · subst h2; simp [h1]
      · rw [if_neg h1, if_neg h2, if_neg (by omega)]; simp [Nat.add_assoc]
  rw [e, hx, List.getD_eq_getElem?_getD, List.getD_eq_getElem?_getD, List.getElem?_drop]
theorem add_lit (b o j : Nat) : (⟨b, o, none⟩ : Addr).add j = ⟨b, o + j, none⟩ := by
  unfold Addr.add
  split <;> simp_all
/-- A stands to each of some. -/
def chainRow (s : Nat → Nat) (a : Int) (l : List Int) (n : Nat) : Nat → Nat := (l.take n).foldl (fun acc b => addR acc a b) s
theorem chainRow_zero (s : Nat → Nat) (a : Int) (l : List Int) : chainRow s a l 0 = s := rfl
theorem chainRow_succ (s : Nat → Nat) (a : Int) (l : List Int) (n : Nat) (h : n < l.length) : chainRow s a l (n + 1) = addR (chainRow s a l n) a (l.getD n 0) := by
  unfold chainRow
  rw [List.take_add_one, List.getElem?_eq_getElem h, List.foldl_append, List.getD_eq_getElem?_getD, List.getElem?_eq_getElem h]
  rfl
theorem chainRow_ok {s : Nat → Nat} (ok : RelOK s) (a : Int) (l : List Int) (n : Nat) : RelOK (chainRow s a l n) := by
  unfold chainRow
  suffices h : ∀ (xs : List Int) (s : Nat → Nat), RelOK s → RelOK (xs.foldl (fun acc b => addR acc a b) s) from h _ _ ok
  intro xs
  induction xs with
  | nil => intro s hs; exact hs
  | cons x xs ih => intro s hs; exact ih _ (addR_ok hs _ _)
def chainTo (l : List Int) : Nat → (Nat → Nat)
  | 0 => fun _ => 0
  | i + 1 => chainRow (chainTo l i) (l.getD i 0) (l.drop (i + 1)) (l.drop (i + 1)).length
theorem chainTo_ok (l : List Int) : ∀ i, RelOK (chainTo l i)
  | 0 => fun _ => by show 0 < _; decide
  | i + 1 => chainRow_ok (chainTo_ok l i) _ _ _
theorem chain_rel (v : Value) (l : List Int) (w : World) (hl : Ints w v l) (hn : l.length ≤ 1000000) : Calls Tryd.prog 17 #[v] w fun e w' => e = .returned (.agg (relArr (chainTo l l.length))) ∧ Ch nob w w' := by
  obtain ⟨A, c, rfl⟩ := hl.shape
  obtain ⟨hz1, ho1, hc1, hs1⟩ := two_new w (relArr fun _ => 0) (relArr fun _ => 0) 27 27
  have HL := Lib.hid hl
  clear hl
  go_enter Tryd.func17, Tryd.ntmps17
  go_wp2_with fail
  generalize (w.alloc _).alloc _ = w1 at hz1 ho1 hc1 ⊢
  go_loopw [10] (fun q wr => ∃ i : Nat, q = .int .i64 i ∧ i ≤ l.length ∧ Blk wr w.heap.size (relArr fun _ => 0) 27 ∧ Blk wr (w.heap.size + 1) (relArr (chainTo l i)) 27 ∧ Ch nob w wr) (fun q _ => l.length - (intOf q).toNat)
  case atStart => exact ⟨0, rfl, by omega, hz1, ho1, hc1⟩
  case round =>
    clear hz1 ho1 hc1 hs1
    obtain ⟨i, rfl, hi, hz, ho, hc⟩ := hrel
    by_cases hlt : i < l.length
    · have hd : decide ((i : Int) < (l.length : Int)) = true := decide_eq_true (by omega)
      obtain ⟨_, _, hcells⟩ := (HL.out.keep hc).at
      obtain ⟨ad, rfl, hx⟩ := hcells i hlt
      have HD := Lib.hid (fun (B : Option Addr) h => HL.out.drop (i + 1) (by omega) B h)
      have okt := chainTo_ok l i
      have HN := Lib.hid (show chainTo l (i + 1) = chainRow (chainTo l i) (l.getD i 0) (l.drop (i + 1)) (l.drop (i + 1)).length from rfl)
      obtain ⟨a, ha⟩ : ∃ a, l.getD i 0 = a := ⟨_, rfl⟩
      rw [ha] at hx HN
      obtain ⟨s, hse⟩ : ∃ s, chainTo l i = s := ⟨_, rfl⟩
      rw [hse] at ho okt HN
      have hcap := HL.out.cap
      have hib : (i : Int) + 1 ≤ (l.length : Int) := by omega
      have hlen2 : (l.drop (i + 1)).length = l.length - (i + 1) := List.length_drop
      obtain ⟨m, hm⟩ : ∃ m, l.drop (i + 1) = m := ⟨_, rfl⟩
      rw [hm] at HD HN hlen2
      have HLE := Lib.hid hlen2
      clear hse ha hcells hm hlen2
      have hHI : (c = i + 1 ∧ Ints w (.slice (some ad) (l.length - (i + 1)) 0) m) ∨ (c ≠ i + 1 ∧ Ints w (.slice (some ⟨ad.block, ad.off + (i + 1), none⟩) (l.length - (i + 1)) (c - (i + 1))) m) := by
        by_cases hcc : c = i + 1
        · left
          refine ⟨hcc, ?_⟩
          have := HD.out (some ad) (fun h => by omega)
          rwa [show c - (i + 1) = 0 from by omega] at this
        · right
          exact ⟨hcc, HD.out _ (fun _ ad' h => by obtain rfl : ad = ad' := by simpa using h
                                                  unfold Addr.add; rw [if_neg (by omega)])⟩
      clear HD
      rcases hHI with ⟨rfl, hI⟩ | ⟨hcc, hI⟩
      · obtain rfl : m = [] := List.eq_nil_of_length_eq_zero (by have := HLE.out; omega)
        have HN2 := Lib.hid (show chainTo l (i + 1) = s from by rw [HN.out]; rfl)
        clear hI HN
        go_wp2_with fail
        go_loopw [20] (fun q wr => q = .int .i64 0 ∧ Blk wr w.heap.size (relArr fun _ => 0) 27 ∧ Blk wr (w.heap.size + 1) (relArr s) 27 ∧ Ch nob w wr) (fun q _ => 0)
        case atStart => exact ⟨rfl, hz, ho, hc⟩
        case round =>
          clear hz ho hc
          obtain ⟨rfl, hz, ho, hc⟩ := hrel
          rw [← HN2.out] at ho
          clear HN2
          go_wp2_with fail
          go_roundw
          case rel => exact ⟨i + 1, by go_num, by omega, hz, ho, hc⟩
          case measure => simp [intOf]; omega
      · have HI := Lib.hid (fun (w' : World) (h : Ch nob w w') => hI.keep h)
        clear hI
        go_wp2_with fail
        rw [← HLE.out]
        go_loopw [20] (fun q wr => ∃ j : Nat, q = .int .i64 j ∧ j ≤ m.length ∧ Blk wr w.heap.size (relArr fun _ => 0) 27 ∧ Blk wr (w.heap.size + 1) (relArr (chainRow s a m j)) 27 ∧ Ch nob w wr) (fun q _ => m.length - (intOf q).toNat)
        case atStart => exact ⟨0, rfl, by omega, hz, ho, hc⟩
        case round =>
          clear hz ho hc
          obtain ⟨j, rfl, hj, hz, ho, hc⟩ := hrel
          by_cases hltj : j < m.length
          · have hd2 : decide ((j : Int) < (m.length : Int)) = true := decide_eq_true (by omega)
            have hml := HLE.out
            have hii := HI.out _ hc
            rw [← HLE.out] at hii
            obtain ⟨_, _, hcells⟩ := hii.at
            obtain ⟨bd, hbd, hx⟩ := hcells j hltj
            simp only [Option.some.injEq] at hbd
            subst hbd
            rw [add_lit] at hx
            clear hcells hml hii
            have HS := Lib.hid (chainRow_succ s a m j hltj)
            obtain ⟨z, hz0⟩ : ∃ z, m.getD j 0 = z := ⟨_, rfl⟩
            rw [hz0] at hx HS
            clear hz0
            go_wp2_with fail
            refine (add_rel _ (chainRow_ok okt a m j) (w.heap.size + 1) a z _ ho).mono ?_
            rintro e w3 ⟨rfl, ho3, hch⟩
            rw [← HS.out] at ho3
            have hz3 := hz.ch hch (by omega)
            have hc3 := hc.fresh hch (by omega)
            clear hz ho hc hch hx
            go_wp2_with fail
            go_roundw
            case rel => exact ⟨j + 1, by go_num, by omega, hz3, ho3, hc3⟩
            case measure => simp [intOf]; omega
          · obtain rfl : j = m.length := by omega
            have hd2 : decide ((m.length : Int) < (m.length : Int)) = false := by simp
            rw [← HN.out] at ho
            clear HN
            go_wp2_with fail
            go_roundw
            case rel => exact ⟨i + 1, by go_num, by omega, hz, ho, hc⟩
            case measure => simp [intOf]; omega
    · obtain rfl : i = l.length := by omega
      have hd : decide ((l.length : Int) < (l.length : Int)) = false := by simp
      have hsz : (relArr (chainTo l l.length)).size = 64 := relArr_size _
      have hce := relArr_cells (chainTo l l.length)
      obtain ⟨C, hC⟩ : ∃ C, relArr (chainTo l l.length) = C := ⟨_, rfl⟩
      have HC := Lib.hid hC
      rw [hC] at hsz hce ho
      obtain ⟨Z, hZ⟩ : ∃ Z, (relArr fun _ => 0) = Z := ⟨_, rfl⟩
      have hzz : Z.size = 64 := by rw [← hZ]; exact relArr_size _
      rw [hZ] at hz
      clear hC hZ
      go_wp2_with (first | (refine wpList_load_row rfl 27 (.tmp 3) rfl (w.heap.size + 1) rfl 27 C (0, 0) _ ho rfl rfl (by rw [hsz]; kernel_rfl) ?_) | (refine wpList_store_row rfl 27 (.tmp 2) (.tmp 29) rfl w.heap.size C rfl rfl 27 _ hz (by rw [hsz]; kernel_rfl) (by rw [hzz, hsz]) hce ?_))
      have hz3 := hz.row C
      have hc3 := hc.setRow w.heap.size C (fun h => by omega)
      exact bodyPost_ret (v := .agg C) (results_cell_row rfl _ _ w.heap.size 27 C (0, 0) _ rfl hz3 rfl rfl (by rw [hsz]; kernel_rfl)) rfl ⟨by rw [HC.out], hc3⟩
end Go.Proofs.YtbpmcjndlbkkiaaDoor
