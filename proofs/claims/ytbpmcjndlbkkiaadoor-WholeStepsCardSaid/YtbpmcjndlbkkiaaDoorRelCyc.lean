/- Relations of numbers below 64: a row of steps by which one comes back. No condition but each theorem's own. -/
import Derived.Test.YtbpmcjndlbkkiaaDoorRelSort
import Derived.Test.YtbpmcjndlbkkiaaDoorCh
set_option linter.unusedVariables false
set_option linter.unusedSimpArgs false
namespace Go.Proofs.YtbpmcjndlbkkiaaDoor
open Go.RowKit
attribute [local go_sem ↓] zero_rel

/-- A row of steps on its way from i back to i. -/
structure CycS (r : Nat → Nat) (i : Nat) (acc : List Nat) (at' : Nat) : Prop where
  pos : 0 < acc.length
  last : acc.getD (acc.length - 1) 0 = at'
  head : acc.getD 0 0 = i
  lt : ∀ v ∈ acc, v < 64
  dec : acc.Pairwise fun (x y : Nat) => shortR r y i < shortR r x i
  step : ∀ j, j + 1 < acc.length → E r (acc.getD j 0) (acc.getD (j + 1) 0)
  back : E (closeR r 64) at' i
theorem getD_snoc_lt (l : List Nat) (k j : Nat) (h : j < l.length) : (l ++ [k]).getD j 0 = l.getD j 0 := by
  rw [List.getD_eq_getElem?_getD, List.getD_eq_getElem?_getD, List.getElem?_append_left h]
theorem getD_snoc_eq (l : List Nat) (k : Nat) : (l ++ [k]).getD l.length 0 = k := by
  rw [List.getD_eq_getElem?_getD, List.getElem?_append_right (Nat.le_refl _)]; simp
theorem CycS.at_lt {r : Nat → Nat} {i : Nat} {acc : List Nat} {a : Nat} (h : CycS r i acc a) : a < 64 := by
  rw [← h.last, List.getD_eq_getElem?_getD, List.getElem?_eq_getElem (by have := h.pos; omega)]
  exact h.lt _ (List.getElem_mem _)
theorem CycS.nodup {r : Nat → Nat} {i : Nat} {acc : List Nat} {a : Nat} (h : CycS r i acc a) : acc.Nodup :=
  h.dec.imp (S := fun x y => x ≠ y) (by intro x y hxy e; subst e; omega)
theorem CycS.len {r : Nat → Nat} {i : Nat} {acc : List Nat} {a : Nat} (h : CycS r i acc a) : acc.length ≤ 64 := by
  have := nodup_len acc (List.range 64) h.nodup (fun x hx => List.mem_range.2 (h.lt x hx))
  rwa [List.length_range] at this
theorem CycS.start {r : Nat → Nat} {i : Nat} (hi : i < 64) (h : E (closeR r 64) i i) : CycS r i [i] i :=
  ⟨by simp, rfl, rfl, by simp [hi], by simp, by simp, h⟩
theorem last_le {r : Nat → Nat} {i : Nat} : ∀ (acc : List Nat), acc.Pairwise (fun (x y : Nat) => shortR r y i < shortR r x i) → ∀ x ∈ acc, shortR r (acc.getD (acc.length - 1) 0) i ≤ shortR r x i
  | [], _, x, hx => by cases hx
  | [y], _, x, hx => by simp at hx; subst hx; simp
  | y :: z :: l, hp, x, hx => by
    rw [List.pairwise_cons] at hp
    have ih := last_le (z :: l) hp.2
    have e : (y :: z :: l).getD ((y :: z :: l).length - 1) 0 = (z :: l).getD ((z :: l).length - 1) 0 := by simp
    rw [e]
    rcases List.mem_cons.1 hx with rfl | hx
    · have h1 := ih z (by simp)
      have h2 := hp.1 z (by simp)
      omega
    · exact ih x hx
theorem CycS.next {r : Nat → Nat} {i : Nat} {acc : List Nat} {a k : Nat} (h : CycS r i acc a) (hk : k < 64) (hs : E r a k) (hb : E (closeR r 64) k i) (hd : shortR r k i < shortR r a i) : CycS r i (acc ++ [k]) k where
  pos := by simp
  last := by rw [List.length_append]; exact getD_snoc_eq acc k
  head := by rw [getD_snoc_lt _ _ _ h.pos]; exact h.head
  lt v hv := by
    rcases List.mem_append.1 hv with hv | hv
    · exact h.lt v hv
    · simp at hv; omega
  dec := by
    rw [List.pairwise_append]
    refine ⟨h.dec, by simp, fun x hx y hy => ?_⟩
    simp at hy
    subst hy
    have := last_le acc h.dec x hx
    rw [h.last] at this
    omega
  step j hj := by
    rw [List.length_append] at hj
    simp at hj
    have hp := h.pos
    by_cases e : j + 1 < acc.length
    · rw [getD_snoc_lt _ _ _ (by omega), getD_snoc_lt _ _ _ e]; exact h.step j e
    · have ej : j = acc.length - 1 := by omega
      rw [getD_snoc_lt _ _ _ (by omega), show j + 1 = acc.length from by omega, getD_snoc_eq, ej, h.last]
      exact hs
  back := hb
/-- None comes back; or a row by which one does. -/
def CycR (r : Nat → Nat) (l : List Nat) : Prop :=
  (l = [] ∧ ∀ i, i < 64 → ¬ E (closeR r 64) i i) ∨
  (0 < l.length ∧ l.length ≤ 64 ∧ l.Nodup ∧ (∀ v ∈ l, v < 64) ∧ (∃ i, i < 64 ∧ E (closeR r 64) i i) ∧ ∀ j, j < l.length → E r (l.getD j 0) (l.getD ((j + 1) % l.length) 0))
theorem CycS.done {r : Nat → Nat} {i : Nat} {acc : List Nat} {a : Nat} (h : CycS r i acc a) (hi : i < 64) (hc : E (closeR r 64) i i) (he : E r a i) : CycR r acc :=
  .inr ⟨h.pos, h.len, h.nodup, h.lt, ⟨i, hi, hc⟩, fun j hj => by
    by_cases e : j + 1 < acc.length
    · rw [Nat.mod_eq_of_lt e]; exact h.step j e
    · have ej : j + 1 = acc.length := by omega
      rw [ej, Nat.mod_self, h.head, show j = acc.length - 1 from by omega, h.last]; exact he⟩
def natL (l : List Nat) : List Int := l.map fun n : Nat => (n : Int)
def RetCyc (w : World) (r : Nat → Nat) (e : Ending) (w' : World) : Prop := ∃ v l, e = .returned v ∧ CycR r l ∧ Ints w' v (natL l) ∧ Ch nob w w'

theorem hasR_nat (r : Nat → Nat) (a b : Nat) (ha : a < 64) (hb : b < 64) : hasR r (a : Int) (b : Int) = (r a).testBit b := by
  unfold hasR inS
  rw [decide_eq_true (by omega)]
  show (true && hasS (r a) b) = _
  rw [hasS_nat _ _ hb]; rfl
set_option maxHeartbeats 1000000 in
theorem cycle_rel (r : Nat → Nat) (okr : RelOK r) (w : World) (hT : Tab w) : Calls Tryd.prog 14 #[.agg (relArr r)] w (RetCyc w r) := by
  obtain ⟨hr1, hc1, hs1⟩ := one_new w (relArr r) 27
  have okc := closeR_ok okr 64
  go_enter Tryd.func14, Tryd.ntmps14
  go_wp2_with (refine wpList_load_row rfl 27 (.tmp 1) rfl w.heap.size rfl 27 (relArr r) (0, 0) _ hr1 rfl rfl (by rw [relArr_size]; kernel_rfl) ?_)
  generalize w.alloc _ = w1 at hr1 hc1 ⊢
  refine (closure_rel r okr _).mono ?_
  rintro e w2 ⟨rfl, hc2⟩
  have hc3 := hc1.seq hc2
  have hr2 := hr1.ch hc2 (fun h => h)
  obtain ⟨t, ht⟩ : ∃ t, closeR r 64 = t := ⟨_, rfl⟩
  have HTT := Lib.hid ht
  rw [ht] at okc ⊢
  clear ht
  have hsz : (relArr t).size = 64 := relArr_size _
  have hce := relArr_cells t
  obtain ⟨C, hC⟩ : ∃ C, relArr t = C := ⟨_, rfl⟩
  have hC2 := Lib.hid hC
  obtain ⟨hz, hcz, hsz2⟩ := one_new w2 (relArr fun _ => 0) 27
  obtain ⟨Z, hZ⟩ : ∃ Z, (relArr fun _ => 0) = Z := ⟨_, rfl⟩
  have hzz : Z.size = 64 := by rw [← hZ]; exact relArr_size _
  rw [hC] at hsz hce ⊢
  have hg2 := hc3.size
  have hlr := hr2.lt
  clear hr1 hc1 hc2 hs1
  rw [hZ] at hz hcz hsz2
  clear hC
  have hz3 : Blk ((w2.alloc (.cells Z 27)).setRow w2.heap.size C) w2.heap.size (relArr t) 27 := by rw [hC2.out]; exact hz.row C
  have hc4 := (hc3.seq hcz).setRow w2.heap.size C (fun h => by omega)
  have hr4 := (hr2.ch hcz (fun h => h)).ch ((Ch.refl (· = w2.heap.size) _).setRow w2.heap.size C (fun _ => rfl)) (fun h => by have h' : w.heap.size = w2.heap.size := h; omega)
  clear hcz hsz2 hc3 hr2
  go_wp2_with (refine wpList_store_row rfl 27 (.tmp 3) (.tmp 10) rfl w2.heap.size C rfl rfl 27 Z hz (by rw [hsz]; kernel_rfl) (by rw [hzz, hsz]) hce ?_)
  generalize (w2.alloc _).setRow _ _ = w3 at hz3 hc4 hr4 ⊢
  clear hz
  generalize w2.heap.size = g at *
  go_loopw [11] (fun q wr => ∃ i : Nat, q = .int .i64 i ∧ i ≤ 64 ∧ Hid (∀ j, j < i → ¬ E t j j) ∧ Blk wr w.heap.size (relArr r) 27 ∧ Blk wr g (relArr t) 27 ∧ Ch nob w wr) (fun q _ => 64 - (intOf q).toNat)
  case atStart => exact ⟨0, rfl, by omega, Lib.hid (fun j hj => by omega), hr4, hz3, hc4⟩
  case round =>
    clear hr4 hz3 hc4
    obtain ⟨i, rfl, hi, hno, hr, hz, hc⟩ := hrel
    by_cases hlt : i < 64
    · have hd : decide ((i : Int) < 64) = true := decide_eq_true (by omega)
      go_wp2_with (refine wpList_load_row rfl 27 (.tmp 3) rfl g rfl 27 (relArr t) (0, 0) _ hz rfl rfl (by rw [relArr_size]; kernel_rfl) ?_)
      refine (has_rel t okc (i : Int) (i : Int) _).mono ?_
      rintro e w5 ⟨rfl, hc5⟩
      have hr5 := hr.ch hc5 (fun h => h)
      have hz5 := hz.ch hc5 (fun h => h)
      have hc6 := hc.seq hc5
      clear hr hz hc hc5
      cases hh : hasR t (i : Int) (i : Int)
      · have hno2 : Hid (∀ j, j < i + 1 → ¬ E t j j) := Lib.hid (fun j hj => by
          by_cases e : j = i
          · subst e
            rw [hasR_nat _ _ _ hlt hlt] at hh
            intro h
            have h' : (t j).testBit j = true := h
            rw [hh] at h'; cases h'
          · exact hno.out j (by omega))
        clear hh hno
        go_wp2_with fail
        go_roundw
        case rel => exact ⟨i + 1, by go_num, by omega, hno2, hr5, hz5, hc6⟩
        case measure => simp [intOf]; omega
      · have hE : E (closeR r 64) i i := by rw [hasR_nat _ _ _ hlt hlt] at hh; rw [HTT.out]; exact hh
        have HE := Lib.hid hE
        have HS0 := Lib.hid (CycS.start hlt hE)
        have ho0 := OwnK.of_blk (k := .i64) (base := w.heap.size) (xs := natL [i]) (Blk.new w5 #[.int .i64 (i : Int)] 3) hc6.size (by simp [natL])
        have hr7 := hr5.alloc (.cells #[.int .i64 (i : Int)] 3)
        have hz7 := hz5.alloc (.cells #[.int .i64 (i : Int)] 3)
        have hc7 := hc6.alloc (.cells #[.int .i64 (i : Int)] 3)
        clear hE hh hr5 hz5 hc6 hno
        go_wp2_with fail
        generalize w5.alloc _ = w6 at ho0 hr7 hz7 hc7 ⊢
        go_loopw [5, 6] (fun o x wr => ∃ (acc : List Nat) (a : Nat), x = .int .i64 a ∧ a < 64 ∧ Hid (CycS r i acc a) ∧ Own wr w.heap.size 3 o (natL acc) ∧ Blk wr w.heap.size (relArr r) 27 ∧ Blk wr g (relArr t) 27 ∧ Ch nob w wr) (fun _ x _ => shortR r (intOf x) i)
        case atStart => exact ⟨[i], i, rfl, hlt, HS0, ho0, hr7, hz7, hc7⟩
        case round =>
          clear ho0 hr7 hz7 hc7 HS0
          obtain ⟨acc, a, rfl, ha, hcs, ho, hr, hz, hc⟩ := hrel
          go_wp2_with (refine wpList_load_row rfl 27 (.tmp 1) rfl w.heap.size rfl 27 (relArr r) (0, 0) _ hr rfl rfl (by rw [relArr_size]; kernel_rfl) ?_)
          refine (has_rel r okr (a : Int) (i : Int) _).mono ?_
          rintro e w7 ⟨rfl, hc7⟩
          have ho8 := ho.keep hc7
          have hr8 := hr.ch hc7 (fun h => h)
          have hz8 := hz.ch hc7 (fun h => h)
          have hc8 := hc.seq hc7
          clear ho hr hz hc hc7
          cases hh : hasR r (a : Int) (i : Int)
          · have hnE : ¬ E r a i := by rw [hasR_nat _ _ _ ha hlt] at hh; intro h; have h' : (r a).testBit i = true := h; rw [hh] at h'; cases h'
            have HNE := Lib.hid (nearer r a i ha hlt hcs.out.back hnE)
            clear hh hnE
            have hxa := hr8.relAt a ha
            have ola := okr a
            have hl := hcs.out.len
            go_wp2_with fail
            refine (list_set (r a) _ ola (hT.keep hc8)).mono ?_
            rintro e w8 ⟨v, rfl, hov, hc9⟩
            have hli := hov.ints
            obtain ⟨A, cc, rfl⟩ := hli.shape
            have ho9 := Lib.hid (ho8.keep hc9)
            have hr9 := hr8.ch hc9 (fun h => h)
            have hz9 := hz8.ch hc9 (fun h => h)
            have hc10 := hc8.seq hc9
            have HO := Lib.hid (fun (w' : World) (h : Ch nob w8 w') => ho9.out.keep h)
            have HR := Lib.hid (fun (w' : World) (h : Ch nob w8 w') => hr9.ch h (fun h => h))
            have HZ := Lib.hid (fun (w' : World) (h : Ch nob w8 w') => hz9.ch h (fun h => h))
            have HLI := Lib.hid (fun (w' : World) (h : Ch nob w8 w') => hli.keep h)
            have hcr := Ch.refl nob w8
            clear ho8 hr8 hz8 hc8 hc9 hov hxa hli hr9 hz9 ho9
            go_wp2_with fail
            go_loopw [6, 32] (fun x q wr => x = .int .i64 a ∧ ∃ j : Nat, q = .int .i64 j ∧ j ≤ (listS (r a)).length ∧ Hid (∀ m, m < j → ¬ (hasR t ((listS (r a)).getD m 0) (i : Int) = true ∧ shortR r ((listS (r a)).getD m 0) (i : Int) < shortR r (a : Int) (i : Int))) ∧ Ch nob w8 wr) (fun _ q _ => (listS (r a)).length - (intOf q).toNat)
            case atStart => exact ⟨rfl, 0, rfl, by omega, Lib.hid (fun m hm => by omega), hcr⟩
            case round =>
              clear hcr
              obtain ⟨rfl, j, rfl, hj, hnf, hcw⟩ := hrel
              by_cases hltj : j < (listS (r a)).length
              · have hd2 : decide ((j : Int) < ((listS (r a)).length : Int)) = true := decide_eq_true (by omega)
                obtain ⟨_, _, hcells⟩ := (HLI.out _ hcw).at
                obtain ⟨ad, rfl, hx⟩ := hcells j hltj
                clear hcells
                obtain ⟨k, hk, hk64⟩ := listS_at (r a) j hltj
                have HK := Lib.hid hk
                rw [hk] at hx
                clear hk
                have hcz := hc10.seq hcw
                have hHT := hT.keep hcz
                have hrw := HR.out _ hcw
                have hzw := HZ.out _ hcw
                cases hh : hasR t (k : Int) (i : Int)
                · have HAS := Lib.hid (fun (u : Ext wr) => ext_of ((has_rel t okc (k : Int) (i : Int) u.val)))
                  rw [hh] at HAS
                  have HSK := Lib.hid True.intro
                  have HSA := Lib.hid True.intro
                  have hnf2 : Hid (∀ m, m < j + 1 → ¬ (hasR t ((listS (r a)).getD m 0) (i : Int) = true ∧ shortR r ((listS (r a)).getD m 0) (i : Int) < shortR r (a : Int) (i : Int))) := Lib.hid (fun m hm => by
                    by_cases e : m = j
                    · rw [e, HK.out, hh]; rintro ⟨h, _⟩; cases h
                    · exact hnf.out m (by omega))
                  clear hh hnf
                  go_wp2_with fail
                  refine wp_region_ch (w0 := wr) (by kernel_rfl) (by kernel_rfl) (Ch.refl _ _) ?_
                  repeat (first
                      | (go_big_quiet_want; refine quiet_load_row 27 (.tmp 3) rfl g rfl 27 (relArr t) (by rintro _ ⟨u, rfl⟩; exact Ext.blk hzw u) _ rfl rfl (by rw [relArr_size]; kernel_rfl) ?_; simp only [Act.put, List.setIfInBounds_toArray, List.set_cons_succ, List.set_cons_zero]; go_big_quiet_on)
                      | (go_big_quiet_want; refine quiet_load_row 27 (.tmp 1) rfl w.heap.size rfl 27 (relArr r) (by rintro _ ⟨u, rfl⟩; exact Ext.blk hrw u) _ rfl rfl (by rw [relArr_size]; kernel_rfl) ?_; simp only [Act.put, List.setIfInBounds_toArray, List.set_cons_succ, List.set_cons_zero]; go_big_quiet_on)
                      | go_big_quiet_step (first | (go_at_call 29; exact HAS.out _) | (go_at_call_of 37 (Value.int .i64 k); exact HSK.out _) | (go_at_call 37; exact HSA.out _)))
                  refine wpQuiet_nil ?_
                  rintro w9 ⟨⟨_, hc9⟩, rfl⟩
                  have hcw9 := hcw.seq hc9
                  go_wp2_with fail
                  go_roundw
                  case rel => exact ⟨rfl, j + 1, by go_num, by omega, hnf2, hcw9⟩
                  case measure => simp [intOf]; omega
                · have HAS := Lib.hid (fun (u : Ext wr) => ext_of ((has_rel t okc (k : Int) (i : Int) u.val)))
                  rw [hh] at HAS
                  have HSK := Lib.hid (fun (u : Ext wr) => ext_of ((short_rel r okr (k : Int) (i : Int) u.val (hHT.keep u.ch))))
                  have HSA := Lib.hid (fun (u : Ext wr) => ext_of ((short_rel r okr (a : Int) (i : Int) u.val (hHT.keep u.ch))))
                  by_cases hs : shortR r (k : Int) (i : Int) < shortR r (a : Int) (i : Int)
                  · have hmem : (k : Int) ∈ listS (r a) := by
                      rw [← HK.out, List.getD_eq_getElem?_getD, List.getElem?_eq_getElem hltj]; exact List.getElem_mem hltj
                    have hEk : E r a k := (mem_listS_nat (r a) k hk64).1 hmem
                    have hbk : E (closeR r 64) k i := by rw [hasR_nat _ _ _ hk64 hlt] at hh; rw [HTT.out]; exact hh
                    have HNX := Lib.hid (hcs.out.next hk64 hEk hbk hs)
                    have hs2 : decide (((shortR r (k : Int) (i : Int) : Nat) : Int) < ((shortR r (a : Int) (i : Int) : Nat) : Int)) = true := decide_eq_true (by omega)
                    clear hh hnf hmem hEk hbk
                    go_wp2_with fail
                    refine wp_region_ch (w0 := wr) (by kernel_rfl) (by kernel_rfl) (Ch.refl _ _) ?_
                    repeat (first
                        | (go_big_quiet_want; refine quiet_load_row 27 (.tmp 3) rfl g rfl 27 (relArr t) (by rintro _ ⟨u, rfl⟩; exact Ext.blk hzw u) _ rfl rfl (by rw [relArr_size]; kernel_rfl) ?_; simp only [Act.put, List.setIfInBounds_toArray, List.set_cons_succ, List.set_cons_zero]; go_big_quiet_on)
                        | (go_big_quiet_want; refine quiet_load_row 27 (.tmp 1) rfl w.heap.size rfl 27 (relArr r) (by rintro _ ⟨u, rfl⟩; exact Ext.blk hrw u) _ rfl rfl (by rw [relArr_size]; kernel_rfl) ?_; simp only [Act.put, List.setIfInBounds_toArray, List.set_cons_succ, List.set_cons_zero]; go_big_quiet_on)
                        | go_big_quiet_step (first | (go_at_call 29; exact HAS.out _) | (go_at_call_of 37 (Value.int .i64 k); exact HSK.out _) | (go_at_call 37; exact HSA.out _)))
                    refine wpQuiet_nil ?_
                    rintro w9 ⟨⟨_, hc9⟩, rfl⟩
                    have hcw9 := hcw.seq hc9
                    have hof := Lib.hid ((HO.out _ hcw9).alloc (.cells #[.int .i64 (k : Int)] 3))
                    have hc11 := Lib.hid ((hc10.seq hcw9).alloc (.cells #[.int .i64 (k : Int)] 3))
                    have hnb := Lib.hid (Blk.new w9 #[.int .i64 (k : Int)] 3)
                    have hrn := Lib.hid ((HR.out _ hcw9).alloc (.cells #[.int .i64 (k : Int)] 3))
                    have hzn := Lib.hid ((HZ.out _ hcw9).alloc (.cells #[.int .i64 (k : Int)] 3))
                    have hge := hc11.out.size
                    have hln : (natL acc).length ≤ 64 := by unfold natL; rw [List.length_map]; exact hl
                    clear hc9
                    go_wp2_with (at_builtin; refine wpList_append_int rfl (.tmp 53) (.tmp 55) 30 3 rfl .i64 8 elem_int (by decide) w.heap.size _ (natL acc) rfl hof.out w9.heap.size (k : Int) 3 rfl hnb.out (by omega) (by omega) ?_; intro v' w' hown hg; have hc12 := hc11.out.grown_own hg (fun b hb => (hof.out.ge b hb).1); have hr12 := hrn.out.grown hg (hof.out.ne hrn.out (by decide)); have hz12 := hzn.out.grown hg (hof.out.ne hzn.out (by decide)))
                    have hown2 : Own w' w.heap.size 3 v' (natL (acc ++ [k])) := by unfold natL at hown ⊢; rw [List.map_append]; exact hown
                    clear hown
                    go_roundw
                    case rel => exact ⟨_, k, rfl, hk64, HNX, hown2, hr12, hz12, hc12⟩
                    case measure => simp [intOf]; omega
                  · have hs2 : decide (((shortR r (k : Int) (i : Int) : Nat) : Int) < ((shortR r (a : Int) (i : Int) : Nat) : Int)) = false := decide_eq_false (by omega)
                    have hnf2 : Hid (∀ m, m < j + 1 → ¬ (hasR t ((listS (r a)).getD m 0) (i : Int) = true ∧ shortR r ((listS (r a)).getD m 0) (i : Int) < shortR r (a : Int) (i : Int))) := Lib.hid (fun m hm => by
                      by_cases e : m = j
                      · rw [e, HK.out]; rintro ⟨_, h⟩; exact hs h
                      · exact hnf.out m (by omega))
                    clear hh hnf
                    go_wp2_with fail
                    refine wp_region_ch (w0 := wr) (by kernel_rfl) (by kernel_rfl) (Ch.refl _ _) ?_
                    repeat (first
                        | (go_big_quiet_want; refine quiet_load_row 27 (.tmp 3) rfl g rfl 27 (relArr t) (by rintro _ ⟨u, rfl⟩; exact Ext.blk hzw u) _ rfl rfl (by rw [relArr_size]; kernel_rfl) ?_; simp only [Act.put, List.setIfInBounds_toArray, List.set_cons_succ, List.set_cons_zero]; go_big_quiet_on)
                        | (go_big_quiet_want; refine quiet_load_row 27 (.tmp 1) rfl w.heap.size rfl 27 (relArr r) (by rintro _ ⟨u, rfl⟩; exact Ext.blk hrw u) _ rfl rfl (by rw [relArr_size]; kernel_rfl) ?_; simp only [Act.put, List.setIfInBounds_toArray, List.set_cons_succ, List.set_cons_zero]; go_big_quiet_on)
                        | go_big_quiet_step (first | (go_at_call 29; exact HAS.out _) | (go_at_call_of 37 (Value.int .i64 k); exact HSK.out _) | (go_at_call 37; exact HSA.out _)))
                    refine wpQuiet_nil ?_
                    rintro w9 ⟨⟨_, hc9⟩, rfl⟩
                    have hcw9 := hcw.seq hc9
                    go_wp2_with fail
                    go_roundw
                    case rel => exact ⟨rfl, j + 1, by go_num, by omega, hnf2, hcw9⟩
                    case measure => simp [intOf]; omega
              · exfalso
                obtain ⟨k, hk64, h1, h2, h3⟩ := HNE.out
                obtain ⟨m, hm, he⟩ := List.getElem_of_mem ((mem_listS_nat (r a) k hk64).2 h1)
                refine hnf.out m (by omega) ?_
                rw [List.getD_eq_getElem?_getD, List.getElem?_eq_getElem hm]
                show hasR t (listS (r a))[m] (i : Int) = true ∧ _
                rw [he, hasR_nat _ _ _ hk64 hlt]
                exact ⟨by rw [HTT.out] at h2; exact h2, h3⟩
          · have hE2 : E r a i := by rw [hasR_nat _ _ _ ha hlt] at hh; exact hh
            have HF := Lib.hid (hcs.out.done hlt HE.out hE2)
            clear hh hE2
            go_wp2_with fail
            go_ret
            exact ⟨_, acc, rfl, HF.out, ho8.ints, hc8⟩
    · obtain rfl : i = 64 := by omega
      have HF := Lib.hid (show CycR r [] from .inl ⟨rfl, fun j hj => by rw [HTT.out]; exact hno.out j hj⟩)
      clear hno
      go_wp2_with fail
      go_ret
      exact ⟨_, [], rfl, HF.out, IntsK.nil _ _ _ _, hc⟩
end Go.Proofs.YtbpmcjndlbkkiaaDoor
