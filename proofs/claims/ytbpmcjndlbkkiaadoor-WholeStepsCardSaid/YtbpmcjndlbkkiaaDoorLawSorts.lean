/- RelSorts answers true, whatever its arguments, where the library's table reads as its text lays it. -/
import Derived.Test.YtbpmcjndlbkkiaaDoorLawCycles
import Derived.Test.YtbpmcjndlbkkiaaDoorSlAt
import Derived.IntWalk
import Derived.Deep.DrawnRows
set_option linter.unusedVariables false
set_option linter.unusedSimpArgs false
namespace Go.Proofs.YtbpmcjndlbkkiaaDoor
open Go.RowKit
attribute [local go_sem ↓] zero_rel Go.wp_at_zero Go.wp_at_succ

/-! ### Plain -/
/-- None of some stands to it, by pairs. -/
def freeL (l : List IPair) (left : List Int) (n : Int) : Bool := left.all fun x => !hasP l x n
theorem free_same {r : Nat → Nat} {l : List IPair} (h : Is r l) (okr : RelOK r) (t : Nat) (n : Nat) (hn : n < 64) (ht : t < 18446744073709551616) : freeL l (listS t) (n : Int) = freeN (turnTo r 64) t (n : Int) := by
  unfold freeL freeN
  rw [Bool.eq_iff_iff, List.all_eq_true, beq_iff_eq]
  show _ ↔ turnTo r 64 n &&& t = 0
  constructor
  · intro ha
    refine Bits.ext64 (Nat.lt_of_le_of_lt Nat.and_le_right ht) (by decide) fun j hj => ?_
    rw [Nat.zero_testBit, Nat.testBit_and]
    cases h1 : t.testBit j with
    | false => simp
    | true =>
      have hm : (j : Int) ∈ listS t := (mem_listS_nat t j hj).2 h1
      have := ha _ hm
      cases h2 : (turnTo r 64 n).testBit j with
      | false => rfl
      | true =>
        have he : E r j n := (turned_bit r n j hn hj).1 h2
        have hp : hasP l (j : Int) (n : Int) = true := (hasP_iff _ _ _).2 ((h.bit hj hn).2 he)
        rw [hp] at this; cases this
  · intro hz x hx
    obtain ⟨j, rfl, hj, hb⟩ := of_mem_listS hx
    cases hp : hasP l (j : Int) (n : Int) with
    | false => rfl
    | true =>
      have he : E r j n := (h.bit hj hn).1 ((hasP_iff _ _ _).1 hp)
      have h2 : (turnTo r 64 n).testBit j = true := (turned_bit r n j hn hj).2 he
      have h3 : (turnTo r 64 n &&& t).testBit j = true := by rw [Nat.testBit_and, h2, hb]; rfl
      rw [hz, Nat.zero_testBit] at h3; cases h3
theorem erase_listS (t : Nat) (j : Nat) (hj : j < (listS t).length) (k : Nat) (hk : (listS t).getD j 0 = (k : Int)) (hk64 : k < 64) : (listS t).take j ++ (listS t).drop (j + 1) = listS (withoutS t (k : Int)) := by
  have h1 : listS (withoutS t (k : Int)) = (listS t).filter fun x => !decide ((k : Int) = x) := by
    unfold listS withoutS inS
    rw [if_pos (decide_eq_true (by omega))]
    show (Bits.list (Bits.del t k)).map _ = _
    rw [list_del, List.filter_map]
    congr 1
    apply List.filter_congr
    intro x _
    simp [Function.comp_def, Int.ofNat_inj]
  rw [h1]
  have hnd := nodup_listS t
  generalize listS t = xs at *
  clear h1
  induction xs generalizing j with
  | nil => simp at hj
  | cons x xs ih =>
    rw [List.nodup_cons] at hnd
    cases j with
    | zero =>
      simp at hk
      rw [List.filter_cons, if_neg (by simp [hk]), List.filter_eq_self.2 (fun a ha => by
        have : x ≠ a := fun e => hnd.1 (e ▸ ha)
        simp only [Bool.not_eq_true', decide_eq_false_iff_not]
        rw [← hk]; exact this)]
      simp
    | succ j =>
      have hk' : xs.getD j 0 = (k : Int) := by simpa using hk
      have hj' : j < xs.length := by simpa using hj
      have hx : ¬ (k : Int) = x := by
        intro e
        apply hnd.1
        rw [← e, ← hk', List.getD_eq_getElem?_getD, List.getElem?_eq_getElem hj']
        exact List.getElem_mem hj'
      rw [List.filter_cons, if_pos (by simp [hx])]
      simp only [List.take_succ_cons, List.drop_succ_cons, List.cons_append]
      rw [ih j hj' hk' hnd.2]
/-- The first one of some that is free, or none is. -/
def FirstF (p : Int → Bool) (left : List Int) (z : Int) (i : Nat) : Prop :=
  (z = -1 ∧ ∀ k, k < i → p (left.getD k 0) = false) ∨ (∃ j : Nat, z = (j : Int) ∧ j < i ∧ p (left.getD j 0) = true ∧ ∀ k, k < j → p (left.getD k 0) = false)
theorem FirstF.start (p : Int → Bool) (left : List Int) : FirstF p left (-1) 0 := .inl ⟨rfl, fun k hk => by omega⟩
theorem FirstF.keep {p : Int → Bool} {left : List Int} {z : Int} {i : Nat} (h : FirstF p left z i) (hn : ¬ (z < 0 ∧ p (left.getD i 0) = true)) : FirstF p left z (i + 1) := by
  rcases h with ⟨rfl, h⟩ | ⟨j, rfl, hj, h1, h2⟩
  · refine .inl ⟨rfl, fun k hk => ?_⟩
    by_cases e : k = i
    · subst e
      cases hp : p (left.getD k 0) with
      | false => rfl
      | true => exact absurd ⟨by decide, hp⟩ hn
    · exact h k (by omega)
  · exact .inr ⟨j, rfl, by omega, h1, h2⟩
theorem FirstF.here {p : Int → Bool} {left : List Int} {z : Int} {i : Nat} (h : FirstF p left z i) (hz : z < 0) (hp : p (left.getD i 0) = true) : FirstF p left (i : Int) (i + 1) := by
  rcases h with ⟨rfl, h⟩ | ⟨j, rfl, hj, h1, h2⟩
  · exact .inr ⟨i, rfl, by omega, hp, h⟩
  · omega
theorem FirstF.ge {p : Int → Bool} {left : List Int} {z : Int} {i : Nat} (h : FirstF p left z i) : -1 ≤ z ∧ z < i := by
  rcases h with ⟨rfl, _⟩ | ⟨j, rfl, hj, _⟩ <;> omega
/-- One round's outcome. -/
theorem sort_round {r : Nat → Nat} {l : List IPair} (h : Is r l) (okr : RelOK r) (t : Nat) (ht : t < 18446744073709551616) (h0 : 0 < (listS t).length) {z : Int} (hf : FirstF (freeL l (listS t)) (listS t) z (listS t).length) :
    (z = -1 ∧ sortS (turnTo r 64) t = none) ∨ (∃ j k : Nat, z = (j : Int) ∧ j < (listS t).length ∧ (listS t).getD j 0 = (k : Int) ∧ k < 64 ∧ t.testBit k = true ∧ sortS (turnTo r 64) t = (sortS (turnTo r 64) (withoutS t (k : Int))).map ((k : Int) :: ·)) := by
  have hsame : ∀ i, i < (listS t).length → freeN (turnTo r 64) t ((listS t).getD i 0) = freeL l (listS t) ((listS t).getD i 0) := fun i hi => by
    obtain ⟨m, hm, hm64⟩ := listS_at t i hi
    rw [hm, free_same h okr t m hm64 ht]
  rcases hf with ⟨rfl, hf⟩ | ⟨j, rfl, hj, h1, h2⟩
  · exact .inl ⟨rfl, sortS_none _ _ h0 (find_no fun i hi => by rw [hsame i hi]; exact hf i hi)⟩
  · obtain ⟨k, hk, hk64⟩ := listS_at t j hj
    refine .inr ⟨j, k, rfl, hj, hk, hk64, ?_, ?_⟩
    · refine (mem_listS_nat t k hk64).1 ?_
      rw [← hk, List.getD_eq_getElem?_getD, List.getElem?_eq_getElem hj]
      exact List.getElem_mem hj
    · refine sortS_some _ _ k hk64 ?_ ?_
      · refine (mem_listS_nat t k hk64).1 ?_
        rw [← hk, List.getD_eq_getElem?_getD, List.getElem?_eq_getElem hj]
        exact List.getElem_mem hj
      · rw [← hk]
        exact find_at (fun i hi => by rw [hsame i (by omega)]; exact h2 i hi) (by rw [hsame j hj]; exact h1) hj

theorem freeTo_succ (l : List IPair) (left : List Int) (n : Int) (k : Nat) (h : k < left.length) : freeL l (left.take (k + 1)) n = (freeL l (left.take k) n && !hasP l (left.getD k 0) n) := by
  unfold freeL
  exact Ref01.all_take_succ left (fun x => !hasP l x n) k h
set_option maxRecDepth 100000 in
set_option maxHeartbeats 4000000 in
theorem law_sorts (w : World) (hT : Tab w) (va : Value) (a : List IPair) (hva : Pairs w va a) (s0 : Int) (hs0 : 0 ≤ s0 ∧ s0 ≤ 18446744073709551615) :
    Calls Tryd.prog 3 #[va, .int .u64 s0] w fun e w' => e = .returned (.bool true) ∧ Below w.heap.size w w' := by
  obtain ⟨s, rfl⟩ := Int.eq_ofNat_of_zero_le hs0.1
  have hs : s < 18446744073709551616 := by omega
  clear hs0
  obtain ⟨A, ca, rfl⟩ := hva.shape
  have hal := hva.at.2.1
  go_enter Tryd.func3, Tryd.ntmps3
  go_wp2_with fail
  refine (speaks02 _ hT).mono ?_
  rintro e w1 ⟨rfl, hc1⟩
  have hT1 := hT.keep hc1
  have HA := Lib.hid (hva.keep hc1)
  clear hva hT
  by_cases ha : 60 < a.length
  · have ha' : (60 : Int) < (a.length : Int) := by omega
    go_wp2_with fail
    go_ret
    exact ⟨rfl, hc1.below⟩
  have ha' : ¬ (60 : Int) < (a.length : Int) := by omega
  go_wp2_with fail
  refine (of_law02 _ a _ HA.out (by omega)).mono ?_
  rintro e w2 ⟨vl, rfl, hvl, hc2⟩
  have okr := ofRel_ok a a.length
  have HIr := Lib.hid (Is.of a a.length (Nat.le_refl _))
  have hll := ofPairs_len a a.length
  obtain ⟨r, hr⟩ : ∃ r, ofRel a a.length = r := ⟨_, rfl⟩
  obtain ⟨l, hl⟩ : ∃ l, ofPairs a a.length = l := ⟨_, rfl⟩
  rw [hr] at okr HIr ⊢
  rw [hl] at HIr hvl hll
  clear hr hl
  obtain ⟨C, cc, rfl⟩ := hvl.shape
  obtain ⟨Z, hZ⟩ : ∃ Z, (relArr fun _ => 0) = Z := ⟨_, rfl⟩
  have hzz : Z.size = 64 := by rw [← hZ]; exact relArr_size _
  obtain ⟨R, hR⟩ : ∃ R, relArr r = R := ⟨_, rfl⟩
  have hsr : R.size = 64 := by rw [← hR]; exact relArr_size _
  have hcr := relArr_cells r
  rw [hR] at hcr
  obtain ⟨hr3, hc3⟩ := new_row w2 Z R 27
  have HR3 := Lib.hid hr3
  have hT3 := (hT1.keep hc2).keep hc3
  have HL3 := Lib.hid (hvl.keep hc3)
  have hc4 := (hc1.seq hc2).seq hc3
  have HRR := Lib.hid hR
  rw [hR]
  clear hvl hc3 hT1 HA hc1 hc2 hR hr3
  go_wp2_with (first
    | (refine wpList_store_row rfl 27 (.tmp 5) (.tmp 26) rfl w2.heap.size R rfl rfl 27 Z (Blk.new w2 Z _) (by rw [hsr]; kernel_rfl) (by rw [hzz, hsr]) hcr ?_)
    | (refine wpList_load_rowG rfl 27 (.tmp 5) rfl w2.heap.size rfl 27 R (0, 0) _ HR3.out rfl rfl (by rw [hsr]; kernel_rfl) ?_))
  generalize (w2.alloc _).setRow _ _ = w3 at HR3 HL3 hc4 hT3 ⊢
  rw [← HRR.out]
  clear hsr hcr HRR hZ hzz HR3
  refine (sorted_rel r okr s hs _ hT3).mono ?_
  rintro e w4 ⟨vg, gl, gb, rfl, hsort, hgnil, hvg, hc5⟩
  have HL4 := HL3.out.keep hc5
  have hc6 := hc4.seq hc5
  have HSO := Lib.hid hsort
  have HGN := Lib.hid hgnil
  obtain ⟨D, cd, rfl⟩ := hvg.shape
  clear hc4 hc5 hT3 hsort hgnil
  go_wp2_with fail
  refine (Ref01.list_ref01 s _ hs).mono ?_
  rintro e w5 ⟨vs, rfl, hos, hc7⟩
  have HLw := Lib.hid (fun (w' : World) (h : Ch nob w5 w') => (HL4.keep hc7).keep h)
  have HGw := Lib.hid (fun (w' : World) (h : Ch nob w5 w') => (hvg.keep hc7).keep h)
  have hc8 := hc6.seq hc7
  have his := hos.ints
  have hw0 : Own w5 w5.heap.size 3 (.slice none 0 0) [] := OwnK.nil _ _ _ _
  have hcr := Ch.refl nob w5
  have HM0 := Lib.hid (show sortS (turnTo r 64) s = (sortS (turnTo r 64) s).map (([] : List Int) ++ ·) from by cases sortS (turnTo r 64) s <;> rfl)
  clear hos hc6 hc7 HL4 hvg
  go_wp2_with fail
  go_loopw [10, 11] (fun o x wr => ∃ (t : Nat) (acc : List Int), t < 18446744073709551616 ∧ Hid (acc.length + (listS t).length ≤ 64) ∧ Hid (sortS (turnTo r 64) s = (sortS (turnTo r 64) t).map (acc ++ ·)) ∧ Own wr w5.heap.size 3 o acc ∧ Ints wr x (listS t) ∧ Hid (∀ b, x.ownBlock = some b → o.ownBlock ≠ some b) ∧ Ch nob w5 wr) (fun _ x _ => sliceLen x)
  case atStart => exact ⟨s, [], hs, Lib.hid (by simpa using listS_len s), HM0, hw0, his, Lib.hid (fun b _ h => by cases h), hcr⟩
  case round =>
    clear hw0 his hcr HM0 hs
    obtain ⟨t, acc, ht, hal, hm, ho, hx, hap, hc⟩ := hrel
    obtain ⟨F, cf, rfl⟩ := hx.shape
    have hllen := listS_len t
    by_cases h0 : 0 < (listS t).length
    · have hd : decide ((0 : Int) < ((listS t).length : Int)) = true := decide_eq_true (by omega)
      have HR := Lib.hid (fun z h => sort_round (z := z) HIr.out okr t ht h0 h)
      obtain ⟨left, hleft⟩ : ∃ left, listS t = left := ⟨_, rfl⟩
      have HLF := Lib.hid hleft
      rw [hleft] at hal hx h0 hd HR hllen ⊢
      clear hleft
      have hLr := Lib.hid (HLw.out _ hc)
      have HX := Lib.hid hx
      clear hx
      go_wp2_with fail
      go_loop [12, 42] (fun z q => ∃ (i : Nat) (z0 : Int), q = .int .i64 i ∧ i ≤ left.length ∧ z = .int .i64 z0 ∧ Hid (FirstF (freeL l left) left z0 i)) (fun _ q => left.length - (intOf q).toNat)
      case atStart => exact ⟨0, -1, rfl, by omega, rfl, Lib.hid (FirstF.start _ _)⟩
      case round =>
        obtain ⟨i, z0, rfl, hi, rfl, hf⟩ := hrel
        obtain ⟨hzl, hzh⟩ := hf.out.ge
        by_cases hlt : i < left.length
        · have hd2 : decide ((i : Int) < (left.length : Int)) = true := decide_eq_true (by omega)
          have hcells := HX.out.at.2.2
          obtain ⟨ad, rfl, hxi⟩ := hcells i hlt
          obtain ⟨n, hn⟩ : ∃ n, left.getD i 0 = n := ⟨_, rfl⟩
          have HN := Lib.hid hn
          rw [hn] at hxi
          have HC := Lib.hid (fun j (hj : j < left.length) => (hcells j hj))
          clear hcells hn
          go_wp2_with fail
          go_loop [15, 49] (fun f q => ∃ j : Nat, q = .int .i64 j ∧ j ≤ left.length ∧ f = .bool (freeL l (left.take j) n)) (fun _ q => left.length - (intOf q).toNat)
          case atStart => exact ⟨0, rfl, by omega, rfl⟩
          case round =>
            obtain ⟨j, rfl, hj, rfl⟩ := hrel
            by_cases hltj : j < left.length
            · have hd3 : decide ((j : Int) < (left.length : Int)) = true := decide_eq_true (by omega)
              obtain ⟨ad', he, hxj⟩ := HC.out j hltj
              obtain rfl : ad = ad' := by simpa using he
              have HS := Lib.hid (freeTo_succ l left n j hltj)
              obtain ⟨x, hx0⟩ : ∃ x, left.getD j 0 = x := ⟨_, rfl⟩
              rw [hx0] at hxj HS
              obtain ⟨q, hq⟩ : ∃ q, freeL l (left.take j) n = q := ⟨_, rfl⟩
              rw [hq] at HS ⊢
              clear he hx0 hq
              cases q
              · have HE := Lib.hid (show freeL l (left.take (j + 1)) n = false from by rw [HS.out]; rfl)
                clear HS
                go_wp2_with fail
                go_round
                case rel => exact ⟨j + 1, by go_num, by omega, by rw [HE.out]⟩
                case measure => simp [intOf]; omega
              · have HE := Lib.hid (show freeL l (left.take (j + 1)) n = !hasP l x n from by rw [HS.out]; rfl)
                clear HS
                go_wp2_with fail
                refine (has_ref02 _ l x n _ hLr.out).mono ?_
                rintro e w6 ⟨rfl, rfl⟩
                go_wp2_with fail
                go_round
                case rel => exact ⟨j + 1, by go_num, by omega, by rw [HE.out]⟩
                case measure => simp [intOf]; omega
            · obtain rfl : j = left.length := by omega
              have hd3 : decide ((left.length : Int) < (left.length : Int)) = false := by simp
              have HTK := Lib.hid (show freeL l (left.take left.length) n = freeL l left n from by rw [List.take_length])
              rw [HTK.out]
              by_cases hyes : z0 < 0 ∧ freeL l left (left.getD i 0) = true
              · have hf2 : Hid (FirstF (freeL l left) left (i : Int) (i + 1)) := Lib.hid (hf.out.here hyes.1 hyes.2)
                have hz0 : z0 < 0 := hyes.1
                have hfr : freeL l left n = true := by rw [← HN.out]; exact hyes.2
                rw [hfr]
                clear hyes hfr hf HTK
                go_wp2_with fail
                go_round
                case rel => exact ⟨i + 1, (i : Int), by go_num, by omega, rfl, hf2⟩
                case measure => simp [intOf]; omega
              · have hf2 : Hid (FirstF (freeL l left) left z0 (i + 1)) := Lib.hid (hf.out.keep hyes)
                by_cases hz0 : z0 < 0
                · have hfr : freeL l left n = false := by
                    cases hfl : freeL l left n with
                    | false => rfl
                    | true => exact absurd ⟨hz0, by rw [HN.out]; exact hfl⟩ hyes
                  rw [hfr]
                  clear hyes hfr hf HTK
                  go_wp2_with fail
                  go_round
                  case rel => exact ⟨i + 1, z0, by go_num, by omega, rfl, hf2⟩
                  case measure => simp [intOf]; omega
                · clear hyes hf HTK
                  go_wp2_with fail
                  go_round
                  case rel => exact ⟨i + 1, z0, by go_num, by omega, rfl, hf2⟩
                  case measure => simp [intOf]; omega
        · obtain rfl : i = left.length := by omega
          have hd2 : decide ((left.length : Int) < (left.length : Int)) = false := by simp
          have hcase := HR.out z0 hf.out
          have hend := hc8.seq hc
          rcases hcase with ⟨rfl, hnone⟩ | ⟨j, k, rfl, hj, hk, hk64, hbit, hsome⟩
          · have hgb : gb = false ∧ gl = [] := by
              have h1 := HSO.out
              rw [hm.out, hnone] at h1
              cases gb with
              | true => cases h1
              | false => exact ⟨rfl, HGN.out rfl⟩
            obtain ⟨rfl, rfl⟩ := hgb
            clear hnone hm HSO HGN hf
            go_wp2_with fail
            go_ret
            exact ⟨rfl, hend.below⟩
          · have HM2 : Hid (sortS (turnTo r 64) s = (sortS (turnTo r 64) (withoutS t (k : Int))).map ((acc ++ [(k : Int)]) ++ ·)) := Lib.hid (by
              rw [hm.out, hsome, map_append_one])
            have HER := Lib.hid (show left.take j ++ left.drop (j + 1) = listS (withoutS t (k : Int)) from by rw [← HLF.out] at hj hk ⊢; exact erase_listS t j hj k hk hk64)
            have hwl := withoutS_lt t (k : Int) ht
            have hlw := listS_without t k hk64 hbit
            rw [HLF.out] at hlw
            have hal2 : Hid ((acc ++ [(k : Int)]).length + (listS (withoutS t (k : Int))).length ≤ 64) := Lib.hid (by have := hal.out; rw [List.length_append]; simp; omega)
            have hacc : acc.length ≤ 64 := by have := hal.out; omega
            have hcap := HX.out.cap
            obtain ⟨ad, rfl, hxj⟩ := HX.out.at.2.2 j hj
            rw [hk] at hxj
            have HLW := Lib.hid hlw
            have hj1 : (j : Int) < (left.length : Int) := by omega
            have hj2 : (j : Int) + 1 ≤ (left.length : Int) := by omega
            have hj3 : (j : Int) ≤ (cf : Int) := by omega
            have hj4 : (0 : Int) ≤ (j : Int) := by omega
            have hj5 : (0 : Int) ≤ (j : Int) + 1 := by omega
            have hj6 : (left.length : Int) ≤ (cf : Int) := by omega
            have hof := Lib.hid (ho.alloc (.cells #[.int .i64 (k : Int)] 3))
            have hc2 := Lib.hid (hc.alloc (.cells #[.int .i64 (k : Int)] 3))
            have hnb := Lib.hid (Blk.new wr #[.int .i64 (k : Int)] 3)
            have hge := hc2.out.size
            have HXA := Lib.hid (HX.out.keep ((Ch.refl nob wr).alloc (.cells #[.int .i64 (k : Int)] 3)))
            clear hm hsome hbit hk hlw hal hf ho hc HSO HGN HR HX
            have hgez : ¬ (j : Int) < 0 := by omega
            by_cases hcc : cf = j + 1
            · subst hcc
              go_wp2_with (at_builtin; refine wpList_append_int_at rfl (.tmp 81) (.tmp 86) 30 3 rfl .i64 8 elem_int (by decide) w5.heap.size _ acc rfl hof.out wr.heap.size (k : Int) 3 rfl hnb.out (by omega) (by omega) ?_; intro v9 w9 hown9 hg9 hat9)
              have hc9 := hc2.out.grown_own hg9 (fun b hb => (hof.out.ge b hb).1)
              have hx9 : Ints w9 (.slice (some ad) left.length (j + 1)) left := HXA.out.grown hg9 (fun b hb e => hap.out b hb e)
              have HGE9 := Lib.hid hown9.ge
              have hlt9 : ad.block < w9.heap.size := by
                have := hx9.at.2.2 j hj
                obtain ⟨ad', he', hc'⟩ := this
                obtain rfl : ad = ad' := by simpa using he'
                have := World.block_lt_of_cell? w9 _ hc'
                rwa [add_block] at this
              have hsz9 : w5.heap.size ≤ w9.heap.size := hc9.size
              have HT1 := Lib.hid (hx9.takeK j (by omega) (j + 1) (by omega))
              have HDN := Lib.hid (show left.drop (j + 1) = [] from List.drop_of_length_le (by omega))
              have hjj : (j : Int) ≤ (j : Int) + 1 := by omega
              have hwr : IntKind.i64.wrap ((j : Int) + 1) = (j : Int) + 1 := IntWalk.i64_in _ (by omega)
              have htn : ((j : Int) + 1).toNat = j + 1 := by omega
              have HO9 := Lib.hid hown9
              have HC9 := Lib.hid hc9
              clear hof hc2 hnb HXA hg9 hx9 hown9 hc9 hxj
              go_region_law (first
                | ((refine step_append_ints (by rfl) (.tmp 88) (.tmp 91) 30 3 (by rfl) .i64 8 elem_int (by decide) w9.heap.size _ [] (by rfl) (OwnK.made .i64 w9.drew w9.heap.size 3 (Nat.le_refl _)) ad j (j + 1) (left.take j) (by rfl) (HT1.out.keep (((Ch.refl nob w9).drew).alloc _)) (by simp) (by rw [List.length_take]; omega) (by simp) ?_; intro v7 w7 hown7 hg7 hat7))
                | ((refine step_append_ints (by rfl) (.tmp 92) (.tmp 96) 30 3 (by rfl) .i64 8 elem_int (by decide) w9.heap.size _ ([] ++ left.take j) (by rfl) hown7 ad 0 0 (left.drop (j + 1)) (by rfl) (by rw [HDN.out]; exact IntsK.nil _ _ _ _) (by simp; omega) (by rw [List.length_drop]; omega) (by have := hg7.size; simp at this; omega) ?_; intro v10 w10 hown10 hg10 hat10)))
              simp only [List.getElem_toArray, List.getElem_cons_succ, List.getElem_cons_zero, Act.put, List.setIfInBounds_toArray, List.set_cons_succ, List.set_cons_zero]
              have hc10a : Ch (· = w9.heap.size) w9 w7 := (((Ch.refl (· = w9.heap.size) w9).drew).alloc _).grown hg7 (fun b hb e => by simpa [Value.ownBlock] using e.symm)
              have hc7 : Ch nob w9 w7 := hc10a.mono (fun b hb e => absurd hb (by omega))
              have hv7 : ∀ b, v7.ownBlock = some b → w9.heap.size ≤ b := fun b hb => by
                rcases hat7 with h | h
                · rw [h] at hb
                  have : w9.heap.size = b := by simpa [Value.ownBlock] using hb
                  omega
                · rw [h] at hb; simp at hb; omega
              have hc10 : Ch nob w9 w10 := hc7.grown_own hg10 hv7
              have hv10 : ∀ b, v10.ownBlock = some b → w9.heap.size ≤ b := fun b hb => by
                rcases hat10 with h | h
                · rw [h] at hb; exact hv7 b hb
                · rw [h] at hb
                  have := hc7.size
                  simp at hb; omega
              have ho10 := HO9.out.keep hc10
              have hsep : Hid (∀ b, v10.ownBlock = some b → v9.ownBlock ≠ some b) := Lib.hid (fun b hb e => by
                have h1 := hv10 b hb
                have h2 := (HGE9.out b e).2
                omega)
              have hx10 : Ints w10 v10 (listS (withoutS t (k : Int))) := by
                have := hown10.ints
                rw [List.nil_append, HER.out] at this
                exact this
              have hc11 := HC9.out.seq hc10
              obtain ⟨G, cg, rfl⟩ := hx10.shape
              clear hown7 hg7 hat7 hown10 hg10 hat10 hc10a hc7 hv7 hv10 HC9 HO9 hc10 hwr htn hjj
              go_wp2_with fail
              go_roundw
              case rel => exact ⟨withoutS t (k : Int), acc ++ [(k : Int)], hwl, hal2, HM2, ho10, hx10, hsep, hc11⟩
              case measure => have hlw := HLW.out; simp [sliceLen]; omega
            · have hcc2 : ¬ cf = j + 1 := hcc
              go_wp2_with (at_builtin; refine wpList_append_int_at rfl (.tmp 81) (.tmp 86) 30 3 rfl .i64 8 elem_int (by decide) w5.heap.size _ acc rfl hof.out wr.heap.size (k : Int) 3 rfl hnb.out (by omega) (by omega) ?_; intro v9 w9 hown9 hg9 hat9)
              have hc9 := hc2.out.grown_own hg9 (fun b hb => (hof.out.ge b hb).1)
              have hx9 : Ints w9 (.slice (some ad) left.length cf) left := HXA.out.grown hg9 (fun b hb e => hap.out b hb e)
              have HGE9 := Lib.hid hown9.ge
              have hlt9 : ad.block < w9.heap.size := by
                have := hx9.at.2.2 j hj
                obtain ⟨ad', he', hc'⟩ := this
                obtain rfl : ad = ad' := by simpa using he'
                have := World.block_lt_of_cell? w9 _ hc'
                rwa [add_block] at this
              have hsz9 : w5.heap.size ≤ w9.heap.size := hc9.size
              have HT1 := Lib.hid (hx9.takeK j (by omega) cf (by omega))
              have HD1 := Lib.hid (hx9.drop (j + 1) (by omega) (some (ad.add (j + 1))) (fun _ ad' h => by
                obtain rfl : ad = ad' := by simpa using h
                rfl))
              have hjj : (j : Int) ≤ (j : Int) + 1 := by omega
              have hwr : IntKind.i64.wrap ((j : Int) + 1) = (j : Int) + 1 := IntWalk.i64_in _ (by omega)
              have htn : ((j : Int) + 1).toNat = j + 1 := by omega
              have HO9 := Lib.hid hown9
              have HC9 := Lib.hid hc9
              clear hof hc2 hnb HXA hg9 hx9 hown9 hc9 hxj
              go_region_law (first
                | ((refine step_append_ints (by rfl) (.tmp 88) (.tmp 91) 30 3 (by rfl) .i64 8 elem_int (by decide) w9.heap.size _ [] (by rfl) (OwnK.made .i64 w9.drew w9.heap.size 3 (Nat.le_refl _)) ad j cf (left.take j) (by rfl) (HT1.out.keep (((Ch.refl nob w9).drew).alloc _)) (by simp) (by rw [List.length_take]; omega) (by simp) ?_; intro v7 w7 hown7 hg7 hat7))
                | ((refine step_append_ints (by rfl) (.tmp 92) (.tmp 96) 30 3 (by rfl) .i64 8 elem_int (by decide) w9.heap.size _ ([] ++ left.take j) (by rfl) hown7 (ad.add (j + 1)) (left.length - (j + 1)) (cf - (j + 1)) (left.drop (j + 1)) (by rfl) ((HD1.out.keep (((Ch.refl nob w9).drew).alloc _)).grown hg7 (fun b hb e => by have e1 : ad.block = b := (by simpa [Value.ownBlock, add_block] using hb); have e2 : w9.heap.size = b := (by simpa [Value.ownBlock] using e); omega)) (by simp; omega) (by rw [List.length_drop]; omega) (by have := hg7.size; simp at this; omega) ?_; intro v10 w10 hown10 hg10 hat10)))
              simp only [List.getElem_toArray, List.getElem_cons_succ, List.getElem_cons_zero, Act.put, List.setIfInBounds_toArray, List.set_cons_succ, List.set_cons_zero]
              have hc10a : Ch (· = w9.heap.size) w9 w7 := (((Ch.refl (· = w9.heap.size) w9).drew).alloc _).grown hg7 (fun b hb e => by simpa [Value.ownBlock] using e.symm)
              have hc7 : Ch nob w9 w7 := hc10a.mono (fun b hb e => absurd hb (by omega))
              have hv7 : ∀ b, v7.ownBlock = some b → w9.heap.size ≤ b := fun b hb => by
                rcases hat7 with h | h
                · rw [h] at hb
                  have : w9.heap.size = b := by simpa [Value.ownBlock] using hb
                  omega
                · rw [h] at hb; simp at hb; omega
              have hc10 : Ch nob w9 w10 := hc7.grown_own hg10 hv7
              have hv10 : ∀ b, v10.ownBlock = some b → w9.heap.size ≤ b := fun b hb => by
                rcases hat10 with h | h
                · rw [h] at hb; exact hv7 b hb
                · rw [h] at hb
                  have := hc7.size
                  simp at hb; omega
              have ho10 := HO9.out.keep hc10
              have hsep : Hid (∀ b, v10.ownBlock = some b → v9.ownBlock ≠ some b) := Lib.hid (fun b hb e => by
                have h1 := hv10 b hb
                have h2 := (HGE9.out b e).2
                omega)
              have hx10 : Ints w10 v10 (listS (withoutS t (k : Int))) := by
                have := hown10.ints
                rw [List.nil_append, HER.out] at this
                exact this
              have hc11 := HC9.out.seq hc10
              obtain ⟨G, cg, rfl⟩ := hx10.shape
              clear hown7 hg7 hat7 hown10 hg10 hat10 hc10a hc7 hv7 hv10 HC9 HO9 hc10 hwr htn hjj
              go_wp2_with fail
              go_roundw
              case rel => exact ⟨withoutS t (k : Int), acc ++ [(k : Int)], hwl, hal2, HM2, ho10, hx10, hsep, hc11⟩
              case measure => have hlw := HLW.out; simp [sliceLen]; omega
    · have hd : decide ((0 : Int) < ((listS t).length : Int)) = false := decide_eq_false (by omega)
      have hend := hc8.seq hc
      have hnil : listS t = [] := List.eq_nil_of_length_eq_zero (by omega)
      have hso : sortS (turnTo r 64) t = some [] := by
        have h1 : sortS (turnTo r 64) t = sortTo (turnTo r 64) (listS t).length t := rfl
        rw [h1, hnil]; rfl
      have hgb : gb = true ∧ gl = acc := by
        have h1 := HSO.out
        rw [hm.out, hso] at h1
        cases gb with
        | true => simp at h1; exact ⟨rfl, h1.symm⟩
        | false => simp at h1
      obtain ⟨rfl, rfl⟩ := hgb
      have hg := HGw.out _ hc
      have hoi := ho.ints
      clear hnil hso hm HSO HGN hx
      go_wp2_with fail
      refine (Ref01.same_ref01 _ _ gl gl _ hg hoi).mono ?_
      rintro e w6 ⟨rfl, hdr⟩
      have hdd : decide (gl = gl) = true := by simp
      have hend2 := hend.seq hdr.ch
      go_wp2_with fail
      go_ret
      exact ⟨ret_bool (by simp), hend2.below⟩
end Go.Proofs.YtbpmcjndlbkkiaaDoor
