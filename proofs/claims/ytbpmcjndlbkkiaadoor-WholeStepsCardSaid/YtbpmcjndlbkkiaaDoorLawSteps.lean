/- WholeSteps answers true, whatever its argument, where the library's table reads as its text lays it. -/
import Derived.Test.YtbpmcjndlbkkiaaDoorStepsPure
import Derived.Test.YtbpmcjndlbkkiaaDoorMix
set_option linter.unusedVariables false
set_option linter.unusedSimpArgs false
namespace Go.Proofs.YtbpmcjndlbkkiaaDoor
open Go.RowKit
attribute [local go_sem ↓] zero_rel

theorem none_sort : sortS (turnTo (fun _ => 0) 64) 6 = some [1, 2] := by decide +kernel
/-- What holds where a relation lies as it lay. -/
def Hs (w0 : World) (g : Nat) (R : List Value) (w : World) : Prop := Ch nob w0 w ∧ w.rangeAt g 0 R
theorem held_ret {P : Program} {f : FuncId} {args : Array Value} {w0 w : World} {g : Nat} {R : List Value} {v : Value} (hS : Ch nob w0 w ∧ w.rangeAt g 0 R)
    (h : ∀ w, Ch nob w0 w → Calls P f args w fun e w' => e = .returned v ∧ Ch nob w w') : Calls P f args w fun e w' => e = .returned v ∧ (Ch nob w0 w' ∧ w'.rangeAt g 0 R) :=
  (h w hS.1).mono fun e w' ⟨he, hc⟩ => ⟨he, hS.1.seq hc, rangeAt_keep hS.2 hc⟩
theorem held_cyc {P : Program} {f : FuncId} {args : Array Value} {w0 w : World} {g : Nat} {R : List Value} {r : Nat → Nat} (hS : Ch nob w0 w ∧ w.rangeAt g 0 R)
    (h : ∀ w, Ch nob w0 w → Calls P f args w (RetCyc w r)) : Calls P f args w fun e w' => ∃ A c l, e = .returned (.slice A (natL l).length c) ∧ CycR r l ∧ (Ch nob w0 w' ∧ w'.rangeAt g 0 R) :=
  (h w hS.1).mono fun e w' ⟨v, l, he, hr, hv, hc⟩ => by
    obtain ⟨A, c, rfl⟩ := hv.shape
    exact ⟨A, c, l, he, hr, hS.1.seq hc, rangeAt_keep hS.2 hc⟩
theorem held_sort {P : Program} {f : FuncId} {args : Array Value} {w0 w : World} {g : Nat} {R : List Value} {o : Option (List Int)} (hS : Ch nob w0 w ∧ w.rangeAt g 0 R)
    (h : ∀ w, Ch nob w0 w → Calls P f args w (RetSort w o)) : Calls P f args w fun e w' => ∃ A c l b, e = .returned (.tuple #[.slice A l.length c, .bool b]) ∧ o = (if b then some l else none) ∧ (b = false → l = []) ∧ Ints w' (.slice A l.length c) l ∧ (Ch nob w0 w' ∧ w'.rangeAt g 0 R) :=
  (h w hS.1).mono fun e w' ⟨v, l, b, he, ho, hn, hv, hc⟩ => by
    obtain ⟨A, c, rfl⟩ := hv.shape
    exact ⟨A, c, l, b, he, ho, hn, hv, hS.1.seq hc, rangeAt_keep hS.2 hc⟩
/-- What the walks of regions want of a relation that lies in memory. -/
theorem rel_list (r : Nat → Nat) (R : List Value) (hR : (relArr r).toList = R) : R.length = 64 ∧ (∀ v ∈ R, v.oneCell' = true) ∧ relArr r = R.toArray := by
  refine ⟨by rw [← hR, Array.length_toList]; exact relArr_size _, fun v hv => ?_, by rw [← hR]⟩
  rw [← hR] at hv
  have := relArr_cells r
  rw [Array.all_eq_true'] at this
  exact this v (by simpa using hv)

set_option maxRecDepth 100000 in
set_option maxHeartbeats 4000000 in
theorem law_steps (w : World) (hT : Tab w) (va : Value) (a : List IPair) (hva : Pairs w va a) :
    Calls Tryd.prog 7 #[va] w fun e w' => e = .returned (.bool true) ∧ Below w.heap.size w w' := by
  obtain ⟨A, ca, rfl⟩ := hva.shape
  have hal := hva.at.2.1
  obtain ⟨hz0, hc0, _⟩ := one_new w (relArr fun _ => 0) 27
  have HVA := Lib.hid hva
  have HTT := Lib.hid hT
  go_enter Tryd.func7, Tryd.ntmps7
  go_wp2_with fail
  generalize w.alloc _ = w1 at hz0 hc0 ⊢
  obtain ⟨R0, hR0⟩ : ∃ R, (relArr fun _ => 0).toList = R := ⟨_, rfl⟩
  obtain ⟨hsz0, hv0, he0⟩ := rel_list _ R0 hR0
  have hi0 : (Tryd.prog.info? 27).map (·.size) = some R0.length := by rw [hsz0]; kernel_rfl
  have hu := Tryd.underlying27
  have hra : w1.rangeAt w.heap.size 0 R0 := by rw [← hR0]; exact rangeAt_blk hz0
  have HE0 := Lib.hid he0
  have HO := Lib.hid (show ((ofS [2, 1] : Nat) : Int) = 6 from by decide +kernel)
  have hcr := Ch.refl nob w1
  clear hR0 he0 hz0 hva hT
  go_region_held3 (fun w' => Ch nob w1 w' ∧ w'.rangeAt w.heap.size 0 R0) (first | assumption | exact ⟨hcr.drew, hra⟩ | exact ⟨hcr.drew.alloc _, World.rangeAt_alloc (by exact hra) _⟩)
    (first
    | (go_at_call 30; refine (of_set _ [2, 1] _ ((OwnK.of_blk (k := .i64) (base := w1.heap.size) (xs := [2, 1]) (Blk.new w1.drew #[.int .i64 2, .int .i64 1] 3) (Nat.le_refl _) (by simp)).ints)).mono ?_; rintro e w6 ⟨rfl, rfl⟩; rw [HO.out])
    | (go_at_call 10; rw [← HE0.out]; refine Calls.mono (held_sort (by assumption) (fun u hu' => sorted_rel _ (fun _ => by show 0 < _; decide) 6 (by decide) u (HTT.out.keep (hc0.seq hu')))) ?_; rintro e w6 ⟨B, cb, row, b, rfl, hsort, hnil, hvl, hS6⟩))
  have hbl : b = true ∧ row = [1, 2] := by
    rw [none_sort] at hsort
    cases b with
    | false => simp at hsort
    | true => simp at hsort; exact ⟨rfl, hsort.symm⟩
  obtain ⟨rfl, rfl⟩ := hbl
  have hc6 := hc0.seq hS6.1
  have hT6 := HTT.out.keep hc6
  clear hsort hnil hS6 hcr hra hi0 hsz0 hv0 HE0 HO hc0
  have hc7 := hc6.alloc (.cells #[.int .i64 1, .int .i64 2] 3)
  have hv7 := hvl.keep ((Ch.refl nob w6).alloc (.cells #[.int .i64 1, .int .i64 2] 3))
  have hn7 := (OwnK.of_blk (k := .i64) (base := w6.heap.size) (xs := [1, 2]) (Blk.new w6 #[.int .i64 1, .int .i64 2] 3) (Nat.le_refl _) (by simp)).ints
  clear hvl hc6
  go_wp2_with fail
  generalize w6.alloc _ = w7 at hc7 hv7 hn7 ⊢
  refine (Ref01.same_ref01 _ _ [1, 2] [1, 2] _ hv7 hn7).mono ?_
  rintro e w8 ⟨rfl, hd⟩
  have hdd : decide (([1, 2] : List Int) = [1, 2]) = true := by decide
  have hc8 := hc7.seq hd.ch
  clear hc7 hv7 hn7 hd hT6
  by_cases ha : 60 < a.length
  · have ha' : (60 : Int) < (a.length : Int) := by omega
    go_wp2_with fail
    go_ret
    exact ⟨rfl, hc8.below⟩
  have ha' : ¬ (60 : Int) < (a.length : Int) := by omega
  obtain ⟨hz9, hcz9, hs9⟩ := one_new w8 (relArr fun _ => 0) 27
  have hc9 := hc8.seq hcz9
  have hcw := hc8.size
  go_wp2_with fail
  generalize w8.alloc _ = w9 at hz9 hc9 ⊢
  obtain ⟨g, hg⟩ : ∃ g, w8.heap.size = g := ⟨_, rfl⟩
  rw [hg] at hz9 hcw ⊢
  clear hg hs9 hcz9 hc8
  go_loopw [32] (fun q wr => ∃ i : Nat, q = .int .i64 i ∧ i ≤ a.length ∧ Blk wr g (relArr (ofRel a i)) 27 ∧ Ch nob w wr) (fun q _ => a.length - (intOf q).toNat)
  case atStart => exact ⟨0, rfl, by omega, hz9, hc9⟩
  case round =>
    clear hz9 hc9
    obtain ⟨i, rfl, hi, hr, hc⟩ := hrel
    by_cases hlt : i < a.length
    · have hd : decide ((i : Int) < (a.length : Int)) = true := decide_eq_true (by omega)
      have hcells := (HVA.out.keep hc).at.2.2
      obtain ⟨ad, rfl, hx1, hx2⟩ := hcells i hlt
      have HS := Lib.hid (ofRel_succ a i hlt)
      have okr := ofRel_ok a i
      obtain ⟨p, hpp⟩ : ∃ p, a.getD i (0, 0) = p := ⟨_, rfl⟩
      rw [hpp] at hx1 hx2 HS
      obtain ⟨r, hre⟩ : ∃ r, ofRel a i = r := ⟨_, rfl⟩
      rw [hre] at hr HS okr
      obtain ⟨x, y⟩ := p
      clear hcells hpp hre
      simp only at hx1 hx2 HS
      have hr2 := hr.alloc (.cells #[.int .i64 x, .int .i64 y] 42)
      have hc2 := hc.alloc (.cells #[.int .i64 x, .int .i64 y] 42)
      clear hr hc
      go_wp2_with fail
      generalize wr.alloc _ = w2 at hr2 hc2 ⊢
      refine (add_rel r okr g x y _ hr2).mono ?_
      rintro e w3 ⟨rfl, hr3, hc3⟩
      rw [← HS.out] at hr3
      have hc4 := hc2.fresh hc3 (by omega)
      clear hr2 hc2 hc3 hx1 hx2
      go_wp2_with fail
      go_roundw
      case rel => exact ⟨i + 1, by go_num, by omega, hr3, hc4⟩
      case measure => simp [intOf]; omega
    · obtain rfl : i = a.length := by omega
      have hd : decide ((a.length : Int) < (a.length : Int)) = false := by simp
      obtain ⟨wz, rfl⟩ : ∃ wz : World, wz = wr := ⟨_, rfl⟩
      have okr := ofRel_ok a a.length
      obtain ⟨r, hre⟩ : ∃ r, ofRel a a.length = r := ⟨_, rfl⟩
      rw [hre] at hr okr
      obtain ⟨R, hR⟩ : ∃ R, (relArr r).toList = R := ⟨_, rfl⟩
      obtain ⟨hsr, hvr, her⟩ := rel_list _ R hR
      have hir : (Tryd.prog.info? 27).map (·.size) = some R.length := by rw [hsr]; kernel_rfl
      have hra : wz.rangeAt g 0 R := by rw [← hR]; exact rangeAt_blk hr
      have HER := Lib.hid her
      have hcr := Ch.refl nob wz
      have HC := Lib.hid hc
      have HR := Lib.hid hr
      clear hre hR her hr hc hlt hi
      go_wp2_with fail
      go_region_held3 (fun w' => Ch nob wz w' ∧ w'.rangeAt g 0 R) (first | assumption | exact ⟨hcr.drew, hra⟩)
        (first
        | (go_at_call 32; refine (below_set 64 _).mono ?_; rintro e w6 ⟨rfl, rfl⟩; rw [below_full])
        | (go_at_call 10; rw [← HER.out]; refine Calls.mono (held_sort (by assumption) (fun u hu' => sorted_rel r okr fullS (by decide) u (HTT.out.keep (HC.out.seq hu')))) ?_; rintro e w6 ⟨B, cb, row, b, rfl, hsort, hnil, hvl, hS6⟩))
      have hall : (b = true ∧ acyR r = true ∧ withinR r (chainTo row row.length) = true) ∨ (b = false ∧ acyR r = false ∧ row = []) := by
        rcases sort_full r okr with ⟨row', h1, h2, h3⟩ | ⟨h1, h2⟩
        · rw [h1] at hsort
          cases b with
          | false => simp at hsort
          | true => simp at hsort; subst hsort; exact .inl ⟨rfl, h2, h3⟩
        · rw [h1] at hsort
          cases b with
          | true => simp at hsort
          | false => exact .inr ⟨rfl, h2, hnil rfl⟩
      obtain ⟨wy, rfl⟩ : ∃ wy : World, wy = w6 := ⟨_, rfl⟩
      have hcy0 := HC.out.seq hS6.1
      have hry := HR.out.ch hS6.1 (fun h => h)
      have hray := hS6.2
      have hcr2 := Ch.refl nob wy
      have hrl : row.length ≤ 1000000 := by
        rcases hall with ⟨rfl, _, _⟩ | ⟨_, _, rfl⟩
        · have h1 : sortS (turnTo r 64) fullS = some row := hsort
          have h2 := sortTo_row r _ fullS row (by decide) rfl h1
          have h3 := nodup_len row (listS fullS) h2.once (fun x hx => by
            have := of_decide_eq_true (h2.nat x hx)
            obtain ⟨n, rfl⟩ := Int.eq_ofNat_of_zero_le this.1
            exact (mem_listS_nat _ n (by omega)).2 (full_bit n (by omega)))
          have := listS_len fullS
          omega
        · simp
      have HHAS := Lib.hid (fun (u : World) (h : Ch nob wy u) => chain_rel _ row u (hvl.keep h) hrl)
      have HCYC := Lib.hid (fun (u : World) (h : Ch nob wy u) => cycle_rel r okr u (HTT.out.keep (hcy0.seq h)))
      have HACY := Lib.hid (fun (u : World) (h : Ch nob wy u) => acyclic_rel r okr u)
      have okch := chainTo_ok row row.length
      have HWIT := Lib.hid (fun (u : World) (h : Ch nob wy u) => within_rel r (chainTo row row.length) okr okch u)
      have HY := Lib.hid hcy0
      have HRY := Lib.hid (fun (u : World) (h : Ch nob wy u) => hry.ch h (fun h => h))
      have hcr3 := hcr2.drew
      clear hsort hnil hS6 hra hcr hcy0 hry HC HR hray
      rcases hall with ⟨rfl, hac, hwi⟩ | ⟨rfl, hac, rfl⟩
      case' inl =>
        have HAC := Lib.hid hac
        rw [hac] at HACY
        rw [hwi] at HWIT
        generalize chainTo row row.length = chn at HHAS HWIT okch
        clear hac hwi hvl
        go_wp2_with fail
        refine wp_region_mix [2, 7, 17, 18] (by kernel_rfl) (by kernel_rfl) ?_
        unfold wpMix
        simp only [Nat.reduceAdd, Nat.reduceSub, Nat.sub_zero, List.drop_succ_cons, List.drop_zero, List.take_succ_cons, List.take_zero]
        repeat (first
          | (go_big_quiet_want; refine quiet_load_row 27 (.tmp 6) rfl g rfl 27 (relArr r) (by rintro _ ⟨u, rfl⟩; exact Ext.blk (HRY.out _ hcr3) u) _ rfl rfl (by rw [relArr_size]; kernel_rfl) ?_; simp only [Act.put, List.setIfInBounds_toArray, List.set_cons_succ, List.set_cons_zero]; go_big_quiet_on)
          | go_big_quiet_step (fail))
        refine wpQuiet_nil ?_
        refine wpOp_run rfl rfl (fun K hK => ?_)
        go_simp
        refine (HACY.out _ hcr3).mono ?_
        rintro e w20 ⟨rfl, hc20⟩
        refine hK _ _ ⟨⟨⟨w20, hc20⟩, rfl⟩, ?_⟩
        clear hK K
        unfold wpMix
        simp only [Nat.reduceAdd, Nat.reduceSub, Nat.sub_zero, List.drop_succ_cons, List.drop_zero, List.take_succ_cons, List.take_zero]
        repeat (first
          | (go_big_quiet_want; refine quiet_load_row 27 (.tmp 6) rfl g rfl 27 (relArr r) (by rintro _ ⟨u, rfl⟩; exact Ext.blk (HRY.out _ hcr3) u) _ rfl rfl (by rw [relArr_size]; kernel_rfl) ?_; simp only [Act.put, List.setIfInBounds_toArray, List.set_cons_succ, List.set_cons_zero]; go_big_quiet_on)
          | go_big_quiet_step (fail))
        refine wpQuiet_nil ?_
        refine wpOp_run rfl rfl (fun K hK => ?_)
        go_simp
        refine (HCYC.out _ (hcr3.seq hc20)).mono ?_
        rintro e w21 ⟨v2, l2, rfl, hcy, hv2, hc21⟩
        have hl2 : l2 = [] := List.eq_nil_of_length_eq_zero (by rw [hcy.empty]; exact HAC.out)
        subst hl2
        obtain ⟨A2, c2, rfl⟩ := hv2.shape
        have hc22 : Ch nob wy.drew w21 := Ch.seq (b := w20) (by exact hc20) hc21
        rw [show (natL []).length = 0 from rfl]
        refine hK _ _ ⟨⟨⟨w21, hc22⟩, rfl⟩, ?_⟩
        clear hK K
        unfold wpMix
        simp only [Nat.reduceAdd, Nat.reduceSub, Nat.sub_zero, List.drop_succ_cons, List.drop_zero, List.take_succ_cons, List.take_zero]
        repeat (first
          | (go_big_quiet_want; refine quiet_load_row 27 (.tmp 6) rfl g rfl 27 (relArr r) (by rintro _ ⟨u, rfl⟩; exact Ext.blk (HRY.out _ hcr3) u) _ rfl rfl (by rw [relArr_size]; kernel_rfl) ?_; simp only [Act.put, List.setIfInBounds_toArray, List.set_cons_succ, List.set_cons_zero]; go_big_quiet_on)
          | go_big_quiet_step (fail))
        refine wpQuiet_nil ?_
        refine wpOp_run rfl rfl (fun K hK => ?_)
        go_simp
        refine (HHAS.out _ (hcr3.seq hc22)).mono ?_
        rintro e w23 ⟨rfl, hc23⟩
        have hc24 : Ch nob wy.drew w23 := hc22.seq hc23
        refine hK _ _ ⟨⟨⟨w23, hc24⟩, rfl⟩, ?_⟩
        clear hK K
        unfold wpMix
        simp only [Nat.reduceAdd, Nat.reduceSub, Nat.sub_zero, List.drop_succ_cons, List.drop_zero, List.take_succ_cons, List.take_zero]
        repeat (first
          | (go_big_quiet_want; refine quiet_load_row 27 (.tmp 6) rfl g rfl 27 (relArr r) (by rintro _ ⟨u, rfl⟩; exact Ext.blk (HRY.out _ hcr3) u) _ rfl rfl (by rw [relArr_size]; kernel_rfl) ?_; simp only [Act.put, List.setIfInBounds_toArray, List.set_cons_succ, List.set_cons_zero]; go_big_quiet_on)
          | go_big_quiet_step (fail))
        refine wpQuiet_nil ?_
        refine wpOp_run rfl rfl (fun K hK => ?_)
        go_simp
        refine (HWIT.out _ (hcr3.seq hc24)).mono ?_
        rintro e wj ⟨rfl, hc25⟩
        have hc26 : Ch nob wy.drew wj := hc24.seq hc25
        refine hK _ _ ⟨⟨⟨wj, hc26⟩, rfl⟩, ?_⟩
        clear hK K
        unfold wpMix
        simp only [Nat.reduceAdd, Nat.reduceSub, Nat.sub_zero, List.drop_succ_cons, List.drop_zero, List.take_succ_cons, List.take_zero]
        repeat (first
          | (go_big_quiet_want; refine quiet_load_row 27 (.tmp 6) rfl g rfl 27 (relArr r) (by rintro _ ⟨u, rfl⟩; exact Ext.blk (HRY.out _ hcr3) u) _ rfl rfl (by rw [relArr_size]; kernel_rfl) ?_; simp only [Act.put, List.setIfInBounds_toArray, List.set_cons_succ, List.set_cons_zero]; go_big_quiet_on)
          | go_big_quiet_step (fail))
        refine wpQuiet_nil ?_
        refine NoPanic.normal ?_
        have hcj := HY.out.seq (hcr3.seq hc26)
        have hrj := HRY.out _ (hcr3.seq hc26)
        clear HHAS HCYC HACY HWIT HY HRY hcr3 hcr2
      case' inr =>
        have HAC := Lib.hid hac
        rw [hac] at HACY
        clear hac hvl
        go_wp2_with fail
        refine wp_region_mix [2, 7, 17, 18] (by kernel_rfl) (by kernel_rfl) ?_
        unfold wpMix
        simp only [Nat.reduceAdd, Nat.reduceSub, Nat.sub_zero, List.drop_succ_cons, List.drop_zero, List.take_succ_cons, List.take_zero]
        repeat (first
          | (go_big_quiet_want; refine quiet_load_row 27 (.tmp 6) rfl g rfl 27 (relArr r) (by rintro _ ⟨u, rfl⟩; exact Ext.blk (HRY.out _ hcr3) u) _ rfl rfl (by rw [relArr_size]; kernel_rfl) ?_; simp only [Act.put, List.setIfInBounds_toArray, List.set_cons_succ, List.set_cons_zero]; go_big_quiet_on)
          | go_big_quiet_step (fail))
        refine wpQuiet_nil ?_
        refine wpOp_run rfl rfl (fun K hK => ?_)
        go_simp
        refine (HACY.out _ hcr3).mono ?_
        rintro e w20 ⟨rfl, hc20⟩
        refine hK _ _ ⟨⟨⟨w20, hc20⟩, rfl⟩, ?_⟩
        clear hK K
        unfold wpMix
        simp only [Nat.reduceAdd, Nat.reduceSub, Nat.sub_zero, List.drop_succ_cons, List.drop_zero, List.take_succ_cons, List.take_zero]
        repeat (first
          | (go_big_quiet_want; refine quiet_load_row 27 (.tmp 6) rfl g rfl 27 (relArr r) (by rintro _ ⟨u, rfl⟩; exact Ext.blk (HRY.out _ hcr3) u) _ rfl rfl (by rw [relArr_size]; kernel_rfl) ?_; simp only [Act.put, List.setIfInBounds_toArray, List.set_cons_succ, List.set_cons_zero]; go_big_quiet_on)
          | go_big_quiet_step (fail))
        refine wpQuiet_nil ?_
        refine wpOp_run rfl rfl (fun K hK => ?_)
        go_simp
        refine (HCYC.out _ (hcr3.seq hc20)).mono ?_
        rintro e wj ⟨v2, l2, rfl, hcy, hv2, hc21⟩
        have hl2 : l2.length ≠ 0 := by rw [ne_eq, hcy.empty, HAC.out]; decide
        obtain ⟨A2, c2, rfl⟩ := hv2.shape
        have hc22 : Ch nob wy.drew wj := Ch.seq (b := w20) (by exact hc20) hc21
        have hq2 : (((natL l2).length : Int) == 0) = false := by rw [natL_len, beq_eq_false_iff_ne]; omega
        refine hK _ _ ⟨⟨⟨wj, hc22⟩, rfl⟩, ?_⟩
        clear hK K
        unfold wpMix
        simp only [Nat.reduceAdd, Nat.reduceSub, Nat.sub_zero, List.drop_succ_cons, List.drop_zero, List.take_succ_cons, List.take_zero]
        repeat (first
          | (go_big_quiet_want; refine quiet_load_row 27 (.tmp 6) rfl g rfl 27 (relArr r) (by rintro _ ⟨u, rfl⟩; exact Ext.blk (HRY.out _ hcr3) u) _ rfl rfl (by rw [relArr_size]; kernel_rfl) ?_; simp only [Act.put, List.setIfInBounds_toArray, List.set_cons_succ, List.set_cons_zero]; go_big_quiet_on)
          | go_big_quiet_step (fail))
        refine wpQuiet_nil ?_
        refine wpOp_skip rfl rfl ⟨⟨⟨wj, hc22⟩, rfl⟩, ?_⟩
        simp only [List.getElem_toArray, List.getElem_cons_succ, List.getElem_cons_zero, Act.put, List.setIfInBounds_toArray, List.set_cons_succ, List.set_cons_zero]
        unfold wpMix
        simp only [Nat.reduceAdd, Nat.reduceSub, Nat.sub_zero, List.drop_succ_cons, List.drop_zero, List.take_succ_cons, List.take_zero]
        repeat (first
          | (go_big_quiet_want; refine quiet_load_row 27 (.tmp 6) rfl g rfl 27 (relArr r) (by rintro _ ⟨u, rfl⟩; exact Ext.blk (HRY.out _ hcr3) u) _ rfl rfl (by rw [relArr_size]; kernel_rfl) ?_; simp only [Act.put, List.setIfInBounds_toArray, List.set_cons_succ, List.set_cons_zero]; go_big_quiet_on)
          | go_big_quiet_step (fail))
        refine wpQuiet_nil ?_
        refine wpOp_skip rfl rfl ⟨⟨⟨wj, hc22⟩, rfl⟩, ?_⟩
        simp only [List.getElem_toArray, List.getElem_cons_succ, List.getElem_cons_zero, Act.put, List.setIfInBounds_toArray, List.set_cons_succ, List.set_cons_zero]
        unfold wpMix
        simp only [Nat.reduceAdd, Nat.reduceSub, Nat.sub_zero, List.drop_succ_cons, List.drop_zero, List.take_succ_cons, List.take_zero]
        repeat (first
          | (go_big_quiet_want; refine quiet_load_row 27 (.tmp 6) rfl g rfl 27 (relArr r) (by rintro _ ⟨u, rfl⟩; exact Ext.blk (HRY.out _ hcr3) u) _ rfl rfl (by rw [relArr_size]; kernel_rfl) ?_; simp only [Act.put, List.setIfInBounds_toArray, List.set_cons_succ, List.set_cons_zero]; go_big_quiet_on)
          | go_big_quiet_step (fail))
        refine wpQuiet_nil ?_
        refine NoPanic.normal ?_
        have hcj := HY.out.seq (hcr3.seq hc22)
        have hrj := HRY.out _ (hcr3.seq hc22)
        clear HHAS HCYC HACY HWIT HY HRY hcr3 hcr2
      all_goals
        obtain ⟨RA, hRA⟩ : ∃ RA, relArr r = RA := ⟨_, rfl⟩
        have hsA : RA.size = 64 := by rw [← hRA]; exact relArr_size _
        have hcA : RA.all (·.oneCell') = true := by rw [← hRA]; exact relArr_cells r
        obtain ⟨Z, hZ⟩ : ∃ Z, (relArr fun _ => 0) = Z := ⟨_, rfl⟩
        have hzz : Z.size = 64 := by rw [← hZ]; exact relArr_size _
        have hrjA := hrj
        rw [hRA] at hrjA
        obtain ⟨hf0, hcf⟩ := new_row wj Z RA 27
        have hrf := hrj.ch hcf (fun h => h)
        have hcf2 := hcj.seq hcf
        have hgj := hrj.lt
        have hwj := hcj.size
        have hrn := hrjA.alloc (.cells Z 27)
        have HRA := Lib.hid hRA
        have HF0 := Lib.hid hf0
        clear hRA hrj hcf hf0
        go_wp2_with (first
          | (refine wpList_load_row rfl 27 (.tmp 6) rfl g rfl 27 RA (0, 0) _ (by first | exact hrjA | exact hrn) rfl rfl (by rw [hsA]; kernel_rfl) ?_)
          | (refine wpList_store_row rfl 27 (.tmp 11) (.tmp 70) rfl wj.heap.size RA rfl rfl 27 Z (Blk.new wj Z _) (by rw [hsA]; kernel_rfl) (by rw [hzz, hsA]) hcA ?_))
        generalize (wj.alloc _).setRow _ _ = wk at HF0 hrf hcf2 ⊢
        obtain ⟨f, hfe⟩ : ∃ f, wj.heap.size = f := ⟨_, rfl⟩
        rw [hfe] at HF0 hgj hwj ⊢
        rw [← HRA.out] at HF0
        have hf1 : Blk wk f (relArr (twiceR r 0)) 27 := HF0.out
        clear hfe hrjA hrn hsA hcA hzz hZ HRA HF0
        go_loopw [71] (fun q wr => ∃ i : Nat, q = .int .i64 i ∧ i ≤ 7 ∧ Blk wr f (relArr (twiceR r i)) 27 ∧ Blk wr g (relArr r) 27 ∧ Ch nob w wr) (fun q _ => 7 - (intOf q).toNat)
        case atStart => exact ⟨0, rfl, by omega, hf1, hrf, hcf2⟩
        case round =>
          clear hf1 hrf hcf2
          obtain ⟨i, rfl, hi, hf, hr, hc⟩ := hrel
          by_cases hlt : i < 7
          · have hd : decide ((i : Int) < 7) = true := decide_eq_true (by omega)
            have okc := twiceR_ok okr i
            have HN := Lib.hid (show twiceR r (i + 1) = unionR (twiceR r i) (thenR (twiceR r i) (twiceR r i)) 64 from rfl)
            have okn := twiceR_ok okr (i + 1)
            obtain ⟨c, hce⟩ : ∃ c, twiceR r i = c := ⟨_, rfl⟩
            rw [hce] at hf okc HN
            clear hce
            have HTH := Lib.hid (fun (u : Ext wr) => ext_of (then_rel c c okc okc u.val (HTT.out.keep (hc.seq u.ch))))
            have HUN := Lib.hid (fun (u : Ext wr) => ext_of (union_rel c (thenR c c) okc (thenR_ok c okc) u.val))
            rw [← HN.out] at HUN
            go_wp2_with fail
            refine wp_region_ch_tail 5 (by kernel_rfl) (by kernel_rfl) (Ch.refl nob wr) ?_
            simp only [List.take_succ_cons, List.take_zero, List.drop_succ_cons, List.drop_zero]
            repeat (first
              | (go_big_quiet_want; refine quiet_load_row 27 (.tmp 11) rfl f rfl 27 (relArr c) (by rintro _ ⟨u, rfl⟩; exact Ext.blk hf u) _ rfl rfl (by rw [relArr_size]; kernel_rfl) ?_; simp only [Act.put, List.setIfInBounds_toArray, List.set_cons_succ, List.set_cons_zero]; go_big_quiet_on)
              | go_big_quiet_step (first | (go_at_call 24; exact HTH.out _) | (go_at_call 23; exact HUN.out _)))
            refine wpQuiet_nil ?_
            rintro wq ⟨⟨_, hcq⟩, rfl⟩
            have hfq := hf.ch hcq (fun h => h)
            have hrq := hr.ch hcq (fun h => h)
            have hcq2 := hc.seq hcq
            obtain ⟨CN, hCN⟩ : ∃ CN, relArr (twiceR r (i + 1)) = CN := ⟨_, rfl⟩
            have hsN : CN.size = 64 := by rw [← hCN]; exact relArr_size _
            have hcN : CN.all (·.oneCell') = true := by rw [← hCN]; exact relArr_cells _
            obtain ⟨CO, hCO⟩ : ∃ CO, relArr c = CO := ⟨_, rfl⟩
            have hsO : CO.size = 64 := by rw [← hCO]; exact relArr_size _
            have hfO := hfq
            rw [hCO] at hfO
            have hf3 := hfq.row CN
            have hch := (Ch.refl (· = f) wq).setRow f CN (fun _ => rfl)
            have hr3 := hrq.ch hch (by omega)
            have hc3 := hcq2.fresh hch (by omega)
            have HCN := Lib.hid hCN
            rw [hCN]
            clear hCN hCO hfq hrq hcq hcq2 hch
            refine wpList_store_row rfl 27 (.tmp 11) (.tmp 77) rfl f CN rfl rfl 27 CO hfO (by rw [hsN]; kernel_rfl) (by rw [hsO, hsN]) hcN ?_
            have hf4 : Blk (wq.setRow f CN) f (relArr (twiceR r (i + 1))) 27 := by rw [HCN.out]; exact hf3
            clear hf3 hfO
            go_wp2_with fail
            go_roundw
            case rel => exact ⟨i + 1, by go_num, by omega, hf4, hr3, hc3⟩
            case measure => simp [intOf]; omega
          · obtain rfl : i = 7 := by omega
            have hd : decide (((7 : Nat) : Int) < 7) = false := by decide
            obtain ⟨wl, rfl⟩ : ∃ wl : World, wl = wr := ⟨_, rfl⟩
            have okc := closeR_ok okr 64
            have hfc : Blk wl f (relArr (closeR r 64)) 27 := by rw [← relArr_ext (twice_close r okr)]; exact hf
            have HW := Lib.hid (close_closed r okr)
            have HTC := Lib.hid (relArr_ext (turned_close r okr))
            have HC1 := Lib.hid (fun (u : Ext wl) => ext_of (closure_rel r okr u.val))
            have okt := turnTo_ok r 64
            have HC2 := Lib.hid (fun (u : Ext wl) => ext_of (closure_rel (turnTo r 64) okt u.val))
            rw [HTC.out] at HC2
            generalize closeR r 64 = c at *
            have HTH := Lib.hid (fun (u : Ext wl) => ext_of (then_rel c c okc okc u.val (HTT.out.keep (hc.seq u.ch))))
            have HWI := Lib.hid (fun (u : Ext wl) => ext_of (within_rel (thenR c c) c (thenR_ok c okc) okc u.val))
            rw [HW.out] at HWI
            have HT1 := Lib.hid (fun (u : Ext wl) => ext_of (turned_rel r okr u.val (HTT.out.keep (hc.seq u.ch))))
            have HT2 := Lib.hid (fun (u : Ext wl) => ext_of (turned_rel c okc u.val (HTT.out.keep (hc.seq u.ch))))
            have hq1 := fun w => eql_rel c c w
            rw [show eqR c c = true from (eqR_iff c c).2 (fun _ _ => rfl)] at hq1
            have hq2 := fun w => eql_rel (turnTo c 64) (turnTo c 64) w
            rw [show eqR (turnTo c 64) (turnTo c 64) = true from (eqR_iff _ _).2 (fun _ _ => rfl)] at hq2
            generalize thenR c c = cc at HTH HWI
            generalize turnTo r 64 = tr at HT1 HC2
            generalize turnTo c 64 = tc at HT2 HC2 hq2
            clear HW HTC hf okt
            go_wp2_with fail
            refine wp_region_ch (w0 := wl) (by kernel_rfl) (by kernel_rfl) (Ch.refl _ _) ?_
            repeat (first
              | (go_big_quiet_want; refine quiet_load_row 27 (.tmp 11) rfl f rfl 27 (relArr c) (by rintro _ ⟨u, rfl⟩; exact Ext.blk hfc u) _ rfl rfl (by rw [relArr_size]; kernel_rfl) ?_; simp only [Act.put, List.setIfInBounds_toArray, List.set_cons_succ, List.set_cons_zero]; go_big_quiet_on)
              | (go_big_quiet_want; refine quiet_load_row 27 (.tmp 6) rfl g rfl 27 (relArr r) (by rintro _ ⟨u, rfl⟩; exact Ext.blk hr u) _ rfl rfl (by rw [relArr_size]; kernel_rfl) ?_; simp only [Act.put, List.setIfInBounds_toArray, List.set_cons_succ, List.set_cons_zero]; go_big_quiet_on)
              | go_big_quiet_step (first | (go_at_call_of 22 (Value.agg (relArr r)); exact HC1.out _) | (go_at_call_of 22 (Value.agg (relArr tr)); exact HC2.out _) | (go_at_call 24; exact HTH.out _) | (go_at_call 28; exact HWI.out _) | (go_at_call_of 26 (Value.agg (relArr r)); exact HT1.out _) | (go_at_call_of 26 (Value.agg (relArr c)); exact HT2.out _)))
            refine wpQuiet_nil ?_
            rintro wq ⟨⟨_, hcq⟩, rfl⟩
            have hend := hc.seq hcq
            go_wp2_with fail
            go_ret
            exact ⟨rfl, hend.below⟩
end Go.Proofs.YtbpmcjndlbkkiaaDoor
