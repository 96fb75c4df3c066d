/- Relations of numbers below 64: their numbers in a row. No condition but each theorem's own. -/
import Derived.Test.YtbpmcjndlbkkiaaDoorRelWalk
set_option linter.unusedVariables false
set_option linter.unusedSimpArgs false
namespace Go.Proofs.YtbpmcjndlbkkiaaDoor
open Go.RowKit
attribute [local go_sem ↓] zero_rel

theorem find_at {p : Int → Bool} : ∀ {l : List Int} {j : Nat}, (∀ i, i < j → p (l.getD i 0) = false) → p (l.getD j 0) = true → j < l.length → l.find? p = some (l.getD j 0)
  | [], j, _, _, h => by simp at h
  | x :: l, 0, _, h, _ => by simp at h; simp [h]
  | x :: l, j + 1, hn, h, hj => by
    have h0 := hn 0 (by omega)
    simp at h0
    rw [List.find?_cons_of_neg (by simp [h0])]
    have := find_at (l := l) (j := j) (p := p) (fun i hi => by simpa using hn (i + 1) (by omega)) (by simpa using h) (by simpa using hj)
    simpa using this
theorem find_no {p : Int → Bool} {l : List Int} (h : ∀ i, i < l.length → p (l.getD i 0) = false) : l.find? p = none := by
  rw [List.find?_eq_none]
  intro x hx
  obtain ⟨j, hj, rfl⟩ := List.getElem_of_mem hx
  have := h j hj
  rw [List.getD_eq_getElem?_getD, List.getElem?_eq_getElem hj] at this
  simpa using this
/-- None of what is left stands to it. -/
def freeN (t : Nat → Nat) (left : Nat) (n : Int) : Bool := (t n.toNat &&& left) == 0
def sortTo (t : Nat → Nat) : Nat → Nat → Option (List Int)
  | 0, _ => some []
  | k + 1, left => match (listS left).find? (freeN t left) with
    | none => none
    | some n => (sortTo t k (withoutS left n)).map (n :: ·)
def sortS (t : Nat → Nat) (left : Nat) : Option (List Int) := sortTo t (listS left).length left
theorem list_del (s n : Nat) : Bits.list (Bits.del s n) = (Bits.list s).filter fun i => !decide (n = i) := by
  unfold Bits.list
  rw [List.filter_filter]
  congr 1
  funext i
  rw [Bits.testBit_del, Bool.and_comm]
theorem nodup_listN (s : Nat) : (Bits.list s).Nodup := List.Nodup.sublist List.filter_sublist List.nodup_range
theorem len_filter_ne : ∀ (l : List Nat) (n : Nat), l.Nodup → n ∈ l → (l.filter fun i => !decide (n = i)).length + 1 = l.length
  | [], n, _, h => by cases h
  | x :: l, n, hd, h => by
    rw [List.nodup_cons] at hd
    rw [List.filter_cons]
    by_cases e : n = x
    · subst e
      rw [if_neg (by simp), List.length_cons, List.filter_eq_self.2 (fun a ha => by
        have : n ≠ a := fun e => hd.1 (e ▸ ha)
        simpa using this)]
    · rw [if_pos (by simp [e]), List.length_cons, List.length_cons]
      have hm : n ∈ l := by
        rcases List.mem_cons.1 h with h | h
        · exact absurd h e
        · exact h
      rw [len_filter_ne l n hd.2 hm]
theorem listS_without (s k : Nat) (hk : k < 64) (h : s.testBit k = true) : (listS (withoutS s (k : Int))).length + 1 = (listS s).length := by
  unfold listS withoutS inS
  rw [if_pos (decide_eq_true (by omega)), List.length_map, List.length_map]
  show (Bits.list (Bits.del s k)).length + 1 = _
  rw [list_del, len_filter_ne _ _ (nodup_listN s) ((Bits.mem_list s k).2 ⟨hk, h⟩)]
theorem sortS_none (t : Nat → Nat) (s : Nat) (h0 : 0 < (listS s).length) (h : (listS s).find? (freeN t s) = none) : sortS t s = none := by
  unfold sortS
  obtain ⟨k, hk⟩ : ∃ k, (listS s).length = k + 1 := ⟨(listS s).length - 1, by omega⟩
  rw [hk]
  show (match (listS s).find? (freeN t s) with | none => none | some n => (sortTo t k (withoutS s n)).map (n :: ·)) = none
  rw [h]
theorem sortS_some (t : Nat → Nat) (s : Nat) (n : Nat) (hn : n < 64) (hb : s.testBit n = true) (h : (listS s).find? (freeN t s) = some (n : Int)) : sortS t s = (sortS t (withoutS s n)).map ((n : Int) :: ·) := by
  have hl := listS_without s n hn hb
  unfold sortS
  rw [← hl]
  show (match (listS s).find? (freeN t s) with | none => none | some m => (sortTo t _ (withoutS s m)).map (m :: ·)) = _
  rw [h]
theorem map_append_one (o : Option (List Int)) (acc : List Int) (n : Int) : (o.map (n :: ·)).map (acc ++ ·) = o.map ((acc ++ [n]) ++ ·) := by
  cases o <;> simp

/-- A row, and whether there is one. -/
def RetSort (w : World) (o : Option (List Int)) (e : Ending) (w' : World) : Prop := ∃ v l b, e = .returned (.tuple #[v, .bool b]) ∧ o = (if b then some l else none) ∧ (b = false → l = []) ∧ Ints w' v l ∧ Ch nob w w'
theorem sorted_rel (r : Nat → Nat) (okr : RelOK r) (s : Nat) (hs : s < 18446744073709551616) (w : World) (hT : Tab w) : Calls Tryd.prog 10 #[.agg (relArr r), .int .u64 s] w (RetSort w (sortS (turnTo r 64) s)) := by
  obtain ⟨hr1, hc1, hs1⟩ := one_new w (relArr r) 27
  have okt := turnTo_ok r 64
  go_enter Tryd.func10, Tryd.ntmps10
  go_wp2_with (refine wpList_load_row rfl 27 (.tmp 2) rfl w.heap.size rfl 27 (relArr r) (0, 0) _ hr1 rfl rfl (by rw [relArr_size]; kernel_rfl) ?_)
  generalize w.alloc _ = w1 at hr1 hc1 ⊢
  refine (turned_rel r okr _ (hT.keep hc1)).mono ?_
  rintro e w2 ⟨rfl, hc2⟩
  have hc3 := hc1.seq hc2
  obtain ⟨t, ht⟩ : ∃ t, turnTo r 64 = t := ⟨_, rfl⟩
  have HTT := Lib.hid ht
  rw [ht] at okt ⊢
  clear ht
  have hsz : (relArr t).size = 64 := relArr_size _
  have hce := relArr_cells t
  obtain ⟨C, hC⟩ : ∃ C, relArr t = C := ⟨_, rfl⟩
  have hC2 := Lib.hid hC
  obtain ⟨hz, hcz, hsz2⟩ := one_new w2 (relArr fun _ => 0) 27
  obtain ⟨Z, hZ⟩ : ∃ Z, (relArr fun _ => 0) = Z := ⟨_, rfl⟩
  have hzz : Z.size = 64 := by rw [← hZ]; exact relArr_size _
  rw [hC] at hsz hce ⊢
  have hcl : Bits.count s ≤ 64 := Bits.list_len s
  have hg2 := hc3.size
  clear hr1 hc1 hc2 hs1
  rw [hZ] at hz hcz hsz2
  clear hC
  have hz3 : Blk ((w2.alloc (.cells Z 27)).setRow w2.heap.size C) w2.heap.size (relArr t) 27 := by rw [hC2.out]; exact hz.row C
  have hc4 := (hc3.seq hcz).setRow w2.heap.size C (fun h => by omega)
  clear hcz hsz2 hc3
  go_wp2_with (refine wpList_store_row rfl 27 (.tmp 6) (.tmp 13) rfl w2.heap.size C rfl rfl 27 Z hz (by rw [hsz]; kernel_rfl) (by rw [hzz, hsz]) hce ?_)
  generalize (w2.alloc _).setRow _ _ = w3 at hz3 hc4 ⊢
  clear hz
  generalize w2.heap.size = g at *
  refine (count_set s _ hs).mono ?_
  rintro e w4 ⟨rfl, rfl⟩
  have hb0 : w.heap.size ≤ w3.heap.size := hc4.size
  go_wp2_with (at_make; refine wpList_make_int rfl _ _ 30 3 rfl .i64 8 elem_int (by decide) w.heap.size (Bits.count s) .i64 .i64 _ rfl rfl rfl (by omega) hb0 ?_; intro w4 ho0 hc5)
  have hz4 := hz3.ch hc5 (fun h => h)
  have hc6 := hc4.seq hc5
  have HM := Lib.hid (show sortS t s = (sortS t s).map (([] : List Int) ++ ·) from by cases sortS t s <;> rfl)
  clear hz3 hc4 hc5 hcl hb0
  go_loopw [7, 8] (fun x o wr => ∃ (l : Nat) (acc : List Int), x = .int .u64 l ∧ l < 18446744073709551616 ∧ Hid (acc.length + (listS l).length ≤ 64) ∧ Hid (sortS t s = (sortS t l).map (acc ++ ·)) ∧ Own wr w.heap.size 3 o acc ∧ Blk wr g (relArr t) 27 ∧ Ch nob w wr) (fun x _ _ => (listS (intOf x).toNat).length)
  case atStart => exact ⟨s, [], rfl, hs, Lib.hid (by simpa using listS_len s), HM, ho0, hz4, hc6⟩
  case round =>
    clear ho0 hz4 hc6 HM hs
    obtain ⟨l, acc, rfl, hl, hal, hm, ho, hz, hc⟩ := hrel
    have HME := Lib.hid (show (listS (intOf (Value.int .u64 (l : Int))).toNat).length = (listS l).length from rfl)
    by_cases h0 : l = 0
    · have hb : ((l : Int) != 0) = false := by simp [h0]
      have HL := Lib.hid (show sortS t s = some acc from by
        rw [hm.out, h0, show sortS t 0 = some [] from by unfold sortS listS; rw [Bits.list_zero]; rfl]; simp)
      clear h0 hm
      go_wp2_with fail
      go_ret2
      exact ⟨_, acc, true, rfl, by rw [HTT.out]; exact HL.out, (fun h => by simp at h), ho.ints, hc⟩
    · have hb : ((l : Int) != 0) = true := by simp [h0]
      have hpos : 0 < (listS l).length := by rw [listS_step l hl h0]; simp
      clear h0
      go_wp2_with fail
      refine (list_set l _ hl (hT.keep hc)).mono ?_
      rintro e w5 ⟨v, rfl, hov, hc5⟩
      have hli := hov.ints
      obtain ⟨A, cc, rfl⟩ := hli.shape
      obtain ⟨_, hlen, hcells⟩ := hli.at
      have HCE := Lib.hid hcells
      have ho2 := Lib.hid (ho.keep hc5)
      have hz2 := hz.ch hc5 (fun h => h)
      have hc7 := hc.seq hc5
      clear hcells hli hov ho hz hc hc5
      go_wp2_with fail
      go_loop [9, 23] (fun n q => n = .int .i64 (-1) ∧ ∃ j : Nat, q = .int .i64 j ∧ j ≤ (listS l).length ∧ Hid (∀ i, i < j → freeN t l ((listS l).getD i 0) = false)) (fun _ q => (listS l).length - (intOf q).toNat)
      case atStart => exact ⟨rfl, 0, rfl, by omega, Lib.hid (fun i hi => by omega)⟩
      case round =>
        obtain ⟨rfl, j, rfl, hj, hno⟩ := hrel
        by_cases hlt : j < (listS l).length
        · have hd2 : decide ((j : Int) < ((listS l).length : Int)) = true := decide_eq_true (by omega)
          obtain ⟨ad, rfl, hx⟩ := HCE.out j hlt
          obtain ⟨n, hn, hn64⟩ := listS_at l j hlt
          have HN := Lib.hid hn
          rw [hn] at hx
          have hxa := hz2.relAt n hn64
          have hand := Bits.and_u64 (t n) l (okt n) hl
          have HF := Lib.hid (show freeN t l (n : Int) = ((t n &&& l) == 0) from rfl)
          clear hn
          cases hf : ((t n &&& l) == 0)
          · have hno2 : Hid (∀ i, i < j + 1 → freeN t l ((listS l).getD i 0) = false) := Lib.hid (fun i hi => by
              by_cases e : i = j
              · rw [e, HN.out, HF.out, hf]
              · exact hno.out i (by omega))
            have hq : (((t n &&& l : Nat) : Int) == 0) = false := by simpa using hf
            clear hf
            go_wp2_with fail
            go_round
            case rel => exact ⟨rfl, j + 1, by go_num, by omega, hno2⟩
            case measure => simp [intOf]; omega
          · have hq : (((t n &&& l : Nat) : Int) == 0) = true := by simpa using hf
            have hmem : (n : Int) ∈ listS l := by
              rw [← HN.out, List.getD_eq_getElem?_getD, List.getElem?_eq_getElem hlt]; exact List.getElem_mem hlt
            have hbit := (mem_listS_nat l n hn64).1 hmem
            have hfind : (listS l).find? (freeN t l) = some (n : Int) := by
              have := find_at (p := freeN t l) hno.out (by rw [HN.out, HF.out, hf]) hlt
              rwa [HN.out] at this
            have HM2 : Hid (sortS t s = (sortS t (withoutS l (n : Int))).map ((acc ++ [(n : Int)]) ++ ·)) := Lib.hid (by
              rw [hm.out, sortS_some t l n hn64 hbit hfind, map_append_one])
            have hwl := withoutS_lt l (n : Int) hl
            have hlw := listS_without l n hn64 hbit
            have hal2 : Hid ((acc ++ [(n : Int)]).length + (listS (withoutS l (n : Int))).length ≤ 64) := Lib.hid (by have := hal.out; rw [List.length_append]; simp; omega)
            have hacc : acc.length ≤ 64 := by have := hal.out; omega
            clear hf hfind hmem hm hno hal HN HF
            have hof := Lib.hid (ho2.out.alloc (.cells #[.int .i64 (n : Int)] 3))
            have hc8 := Lib.hid (hc7.alloc (.cells #[.int .i64 (n : Int)] 3))
            have hnb := Lib.hid (Blk.new w5 #[.int .i64 (n : Int)] 3)
            have hzn := Lib.hid (hz2.alloc (.cells #[.int .i64 (n : Int)] 3))
            have hge := hc8.out.size
            clear hc7 hz2 ho2
            go_wp2_with (first | (at_builtin; refine wpList_append_int rfl (.tmp 40) (.tmp 42) 30 3 rfl .i64 8 elem_int (by decide) w.heap.size _ acc rfl hof.out w5.heap.size (n : Int) 3 rfl hnb.out (by omega) (by omega) ?_; intro v' w' hown hg; have hc9 := hc8.out.grown_own hg (fun b hb => (hof.out.ge b hb).1); have hz9 := hzn.out.grown hg (hof.out.ne hzn.out (by decide))) | (go_at_call 35; refine (without_set _ _ _ hl).mono ?_; rintro e w6 ⟨rfl, rfl⟩))
            go_roundw
            case rel => exact ⟨_, _, rfl, hwl, hal2, HM2, hown, hz9, hc9⟩
            case measure => simp [intOf]; omega
        · obtain rfl : j = (listS l).length := by omega
          have HM2 := Lib.hid (show sortS t s = none from by rw [hm.out, sortS_none t l hpos (find_no hno.out)]; rfl)
          have hd2 : decide (((listS l).length : Int) < ((listS l).length : Int)) = false := by simp
          clear hm hno
          go_wp2_with fail
          go_ret2
          exact ⟨_, [], false, rfl, by rw [HTT.out]; exact HM2.out, fun _ => rfl, IntsK.nil _ _ _ _, hc7⟩
end Go.Proofs.YtbpmcjndlbkkiaaDoor
