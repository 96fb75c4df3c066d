/- The words of package burgagelaw02 that it speaks of: true. No condition but each theorem's own. -/
import Derived.Test.YtbpmcjndlbkkiaaDoorRelLaw1
import Derived.Test.YtbpmcjndlbkkiaaDoorArrEq
set_option linter.unusedVariables false
set_option linter.unusedSimpArgs false
namespace Go.Proofs.YtbpmcjndlbkkiaaDoor
open Go.RowKit
attribute [local go_sem ↓] zero_rel

set_option maxRecDepth 100000 in
set_option maxHeartbeats 1000000 in
theorem speaks02 (w : World) (hT : Tab w) : Calls Tryd.prog 8 #[] w fun e w' => e = .returned (.bool true) ∧ Ch nob w w' := by
  obtain ⟨hr0, hc0, hs0⟩ := one_new w (relArr fun _ => 0) 27
  go_enter Tryd.func8, Tryd.ntmps8
  go_wp2_with fail
  generalize w.alloc _ = w1 at hr0 hc0 ⊢
  refine (add_rel _ (fun _ => by show 0 < _; decide) w.heap.size 0 2 _ hr0).mono ?_
  rintro e w2 ⟨rfl, hr2, hc2⟩
  have hc3 := hc0.fresh hc2 (Nat.le_refl _)
  go_wp2_with fail
  refine (add_rel _ (addR_ok (fun _ => by show 0 < _; decide) _ _) w.heap.size 2 1 _ hr2).mono ?_
  rintro e w3 ⟨rfl, hr3, hc4⟩
  have hc5 := hc3.fresh hc4 (Nat.le_refl _)
  go_wp2_with fail
  refine (add_rel _ (addR_ok (addR_ok (fun _ => by show 0 < _; decide) _ _) _ _) w.heap.size 0 64 _ hr3).mono ?_
  rintro e w4 ⟨rfl, hr4, hc6⟩
  have hc7 := hc5.fresh hc6 (Nat.le_refl _)
  have hr5 : Blk w4 w.heap.size (relArr threeR) 27 := hr4
  have i1 : (inS 0 && inS 2) = true := by decide
  have i2 : (inS 2 && inS 1) = true := by decide
  have i3 : (inS 0 && inS 64) = false := by decide
  have hT4 := hT.keep hc7
  have HTT := Lib.hid hT
  rw [i1, i2, i3]
  have HO := Lib.hid (show ((ofS [0, 1, 2] : Nat) : Int) = 7 from by decide +kernel)
  have HS := Lib.hid (show sortS (turnTo threeR 64) 7 = some [0, 2, 1] from three_sort)
  clear hr0 hr2 hr3 hr4 hc0 hc2 hc3 hc4 hc5 hc6 i1 i2 i3 hs0 hT
  go_wp2_with fail
  obtain ⟨R, hR⟩ : ∃ R, (relArr threeR).toList = R := ⟨_, rfl⟩
  have HR := Lib.hid (show relArr threeR = R.toArray from by rw [← hR])
  have hsz : R.length = 64 := by rw [← hR, Array.length_toList]; exact relArr_size _
  have hi : (Tryd.prog.info? 27).map (·.size) = some R.length := by rw [hsz]; kernel_rfl
  have hu := Tryd.underlying27
  have hv : ∀ v ∈ R, v.oneCell' = true := by
    rw [← hR]
    intro v hv
    have := relArr_cells threeR
    rw [Array.all_eq_true'] at this
    exact this v (by simpa using hv)
  have hra : w4.rangeAt w.heap.size 0 R := by rw [← hR]; exact rangeAt_blk hr5
  clear hR
  go_region_held3 (fun w' => w'.rangeAt w.heap.size 0 R) (first | assumption | go_keep_ranges)
    (first
    | (go_at_call 30; refine (of_set _ [0, 1, 2] _ ((OwnK.of_blk (k := .i64) (base := w4.heap.size) (xs := [0, 1, 2]) (Blk.new w4.drew #[.int .i64 0, .int .i64 1, .int .i64 2] 3) (Nat.le_refl _) (by simp)).ints)).mono ?_; rintro e w6 ⟨rfl, rfl⟩; rw [HO.out])
    | (go_at_call 10; rw [← HR.out]; refine (sorted_rel threeR three_ok 7 (by decide) _ (hT4.keep (((Ch.refl nob w4).drew).alloc _))).mono ?_; rintro e w6 ⟨v, l, b, rfl, hsort, hnil, hvl, hc8⟩; have hS6 : w6.rangeAt w.heap.size 0 R := rangeAt_keep (rangeAt_keep hra (((Ch.refl nob w4).drew).alloc _)) hc8))
  have hbl : b = true ∧ l = [0, 2, 1] := by
    rw [HS.out] at hsort
    cases b with
    | false => simp at hsort
    | true => simp at hsort; exact ⟨rfl, hsort.symm⟩
  obtain ⟨rfl, rfl⟩ := hbl
  obtain ⟨A, c, rfl⟩ := hvl.shape
  have hc9 := hc7.seq ((((Ch.refl nob w4).drew).alloc _).seq hc8)
  have hr6 := (hr5.ch (((Ch.refl nob w4).drew).alloc (.cells #[.int .i64 0, .int .i64 1, .int .i64 2] 3)) (fun h => h)).ch hc8 (fun h => h)
  have hr7 := hr6.alloc (.cells #[.int .i64 0, .int .i64 2, .int .i64 1] 3)
  have hc10 := hc9.alloc (.cells #[.int .i64 0, .int .i64 2, .int .i64 1] 3)
  have hv7 := hvl.keep ((Ch.refl nob w6).alloc (.cells #[.int .i64 0, .int .i64 2, .int .i64 1] 3))
  have hn7 := (OwnK.of_blk (k := .i64) (base := w6.heap.size) (xs := [0, 2, 1]) (Blk.new w6 #[.int .i64 0, .int .i64 2, .int .i64 1] 3) (Nat.le_refl _) (by simp)).ints
  have hT7 := HTT.out.keep hc10
  clear hsort hnil hvl hc8 hS6 hr5 hr6 hc7 hc9 hT4 hra hv hu hi hsz HR HO HS
  go_wp2_with fail
  generalize w6.alloc _ = w7 at hr7 hc10 hv7 hn7 hT7 ⊢
  refine (Ref01.same_ref01 _ _ [0, 2, 1] [0, 2, 1] _ hv7 hn7).mono ?_
  rintro e w8 ⟨rfl, hd⟩
  have hr8 := hr7.ch hd.ch (fun h => h)
  have hc11 := hc10.seq hd.ch
  have hT8 := hT7.keep hd.ch
  have hdd : decide (([0, 2, 1] : List Int) = [0, 2, 1]) = true := by decide
  clear hr7 hc10 hv7 hn7 hT7 hd
  go_wp2_with (refine wpList_load_rowG rfl 27 (.tmp 1) rfl w.heap.size rfl 27 (relArr threeR) (0, 0) _ hr8 rfl rfl (by rw [relArr_size]; kernel_rfl) ?_)
  refine (closure_rel threeR three_ok _).mono ?_
  rintro e w9 ⟨rfl, hc12⟩
  have hr9 := hr8.ch hc12 (fun h => h)
  have hc13 := hc11.seq hc12
  have hT9 := hT8.keep hc12
  have HH := Lib.hid three_has
  have okc := closeR_ok three_ok 64
  have HQ := Lib.hid (fun w => has_rel _ okc 0 1 w)
  rw [HH.out] at HQ
  generalize closeR threeR 64 = cl at *
  clear hr8 hc11 hc12 hT8
  go_wp2_with fail
  refine (HQ.out _).mono ?_
  rintro e w10 ⟨rfl, hc14⟩
  have hr10 := hr9.ch hc14 (fun h => h)
  have hc15 := hc13.seq hc14
  have hT10 := hT9.keep hc14
  have HA := Lib.hid (fun w => acyclic_rel _ three_ok w)
  rw [three_acy] at HA
  clear hr9 hc13 hc14 hT9
  go_wp2_with (refine wpList_load_rowG rfl 27 (.tmp 1) rfl w.heap.size rfl 27 (relArr threeR) (0, 0) _ hr10 rfl rfl (by rw [relArr_size]; kernel_rfl) ?_)
  refine (HA.out _).mono ?_
  rintro e w11 ⟨rfl, hc16⟩
  have hr11 := hr10.ch hc16 (fun h => h)
  have hc17 := hc15.seq hc16
  have hT11 := hT10.keep hc16
  clear hr10 hc15 hc16 hT10
  go_wp2_with (refine wpList_load_rowG rfl 27 (.tmp 1) rfl w.heap.size rfl 27 (relArr threeR) (0, 0) _ hr11 rfl rfl (by rw [relArr_size]; kernel_rfl) ?_)
  refine (cycle_rel threeR three_ok _ hT11).mono ?_
  rintro e w12 ⟨v2, l2, rfl, hcy, hv2, hc18⟩
  have hl2 := hcy.acyclic three_not
  subst hl2
  obtain ⟨A2, c2, rfl⟩ := hv2.shape
  have hc19 := hc17.seq hc18
  clear hr11 hc17 hc18 hT11 hcy
  go_wp2_with fail
  go_ret
  exact ⟨rfl, hc19⟩
end Go.Proofs.YtbpmcjndlbkkiaaDoor
