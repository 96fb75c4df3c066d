/- Texts of this claim, merged: OrdL Lst1 Lst2 Lst3 Law11a Law11b SlAt Row11 Led Led2. -/
import Derived.Test.YtlhfpnkfapghoaaDoorPk0
import Derived.Test.YtlhfpnkfapghoaaDoorPk3
import Derived.Test.YtlhfpnkfapghoaaDoorPk4
import Derived.Test.YtlhfpnkfapghoaaDoorPk5
import Derived.Test.YtlhfpnkfapghoaaDoorPk6
import Derived.Test.YtlhfpnkfapghoaaDoorPk9
import Derived.Laws.StructEq
import Derived.Maps.AppendAt
import Derived.Deep.RegionLaw
import Derived.IntWalk
import Derived.Deep.DrawnRows
import Derived.OpenShut
section
/- The law OrderPairs: who comes ahead of whom, who reads of whom, who writes to the same key. No condition but each theorem's own. -/
set_option linter.unusedVariables false
set_option linter.unusedSimpArgs false
namespace Go.Proofs.YtlhfpnkfapghoaaDoor
open Go.RowKit Go.Maps

theorem quiet_load_rel {C : World → Prop} {o : Oper} {a : Act} {K : Act → Prop} (x : Operand) (ho : o.op = .load 40 x)
    (g off : Nat) (hx : a.eval x = .pointer (some ⟨g, off, none⟩)) (R : Nat → Nat) (hc : ∀ w, C w → w.rangeAt g off (relArr R).toList)
    (h : K (a.put o.dst (.agg (relArr R)))) : o.quiet Tryd.prog a C K :=
  ⟨_, fun w hw => by
    have hr := run_loadVar_mid (P := Tryd.prog) w g off 40 (relArr R).toList (.array 64 38) (hc w hw) (by kernel_rfl) rfl (by rw [rel_len]; kernel_rfl)
    rw [Array.toArray_toList] at hr
    unfold Oper.quietAt execOp
    simp only [ho, hx, Instr.loadAt, Instr.sureAddr, Sem.run_bind, Sem.run_pure, Result.andThen_ok, hr]
    exact ⟨rfl, rfl⟩, h⟩
theorem bne_self (b : Bool) : (b != b) = false := by cases b <;> rfl
theorem doc_ne {hs : List Txr} (h : bigB hs = true ∨ mayH hs = false) : (docH hs != 0) = true := by
  rcases h with h | h
  · rw [doc_big h]; rfl
  · cases hb : bigB hs with
    | true => rw [doc_big hb]; rfl
    | false => rw [doc_no hb h]; rfl
end Go.Proofs.YtlhfpnkfapghoaaDoor
end

section
/- Package least: what must be seen whatever the order is. No condition but each theorem's own. -/
set_option linter.unusedVariables false
set_option linter.unusedSimpArgs false
namespace Go.Proofs.YtlhfpnkfapghoaaDoor
open Go.RowKit
attribute [local go_sem ↓] zero_rel

theorem two_row (w : World) (Z1 Z2 C : Array Value) (T : TypeId) : Blk (((w.alloc (.cells Z1 T)).alloc (.cells Z2 T)).setRow (w.heap.size + 1) C) w.heap.size Z1 T ∧ Blk (((w.alloc (.cells Z1 T)).alloc (.cells Z2 T)).setRow (w.heap.size + 1) C) (w.heap.size + 1) C T ∧ Ch nob w (((w.alloc (.cells Z1 T)).alloc (.cells Z2 T)).setRow (w.heap.size + 1) C) := by
  obtain ⟨h1, h2, hc, _⟩ := two_new w Z1 Z2 T T
  have hch : Ch (· = w.heap.size + 1) ((w.alloc (.cells Z1 T)).alloc (.cells Z2 T)) (((w.alloc (.cells Z1 T)).alloc (.cells Z2 T)).setRow (w.heap.size + 1) C) := (Ch.refl _ _).setRow _ C (fun _ => rfl)
  exact ⟨h1.ch hch (by omega), h2.row C, hc.fresh hch (by omega)⟩
set_option maxRecDepth 100000 in
set_option maxHeartbeats 4000000 in
theorem base_least (w : World) (x : Int) (go n : Nat) (S T F R : Nat → Nat) (hO : Obj w go n S T F R) :
    Calls Tryd.prog 27 #[.pointer (some ⟨go, 0, none⟩), .int .i64 x] w fun e w' => e = .returned (.agg (relArr (baseR x S T F))) ∧ Ch nob w w' := by
  have HRS := Lib.hid (fun u (hc : Ch nob w u) => rangeAt_keep hO.ses hc)
  have HRT := Lib.hid (fun u (hc : Ch nob w u) => rangeAt_keep hO.tim hc)
  have HRF := Lib.hid (fun u (hc : Ch nob w u) => rangeAt_keep hO.frm hc)
  have okS := hO.okS
  have okT := hO.okT
  have okF := hO.okF
  have HE := Lib.hid (show baseR x S T F = (if askB x 32 = true then unionR (if askB x 1 = true then unionR F S 64 else F) T 64 else (if askB x 1 = true then unionR F S 64 else F)) from rfl)
  obtain ⟨Z, hZ⟩ : ∃ Z, baseR x S T F = Z := ⟨_, rfl⟩
  rw [hZ] at HE ⊢
  obtain ⟨hn4, hn5, hcn, _⟩ := two_new w (relArr fun _ => 0) (relArr fun _ => 0) 40 40
  obtain ⟨h4, h5, hc5⟩ := two_row w (relArr fun _ => 0) (relArr fun _ => 0) (relArr F) 40
  clear hO hZ
  go_enter Tryd.func27, Tryd.ntmps27
  go_upto_if 12 with (first
    | (refine wpList_load_relG rfl (.tmp 8) rfl go 129 rfl _ (HRF.out _ ((Ch.refl nob _).alloc _)) ?_)
    | (refine wpList_store_row rfl 40 (.tmp 5) (.tmp 9) rfl (w.heap.size + 1) (relArr F) rfl rfl 40 _ hn5 (by rw [relArr_size]; kernel_rfl) (by rw [relArr_size, relArr_size]) (relArr_cells _) ?_))
  generalize ((w.alloc _).alloc _).setRow _ _ = w5 at h4 h5 hc5 ⊢
  obtain ⟨g4, hg4⟩ : ∃ g, w.heap.size = g := ⟨_, rfl⟩
  obtain ⟨g5, hg5⟩ : ∃ g, w.heap.size + 1 = g := ⟨_, rfl⟩
  have HG := Lib.hid (show g4 ≠ g5 ∧ w.heap.size ≤ g4 ∧ w.heap.size ≤ g5 by omega)
  rw [hg4] at h4
  rw [hg5] at h5
  rw [hg5, hg4]
  clear hg4 hg5 hn4 hn5 hcn
  go_cut [5] (fun p wc => ∃ r, p = .pointer (some ⟨g5, 0, none⟩) ∧ Hid (r = if askB x 1 = true then unionR F S 64 else F) ∧ RelOK r ∧ Blk wc g4 (relArr fun _ => 0) 40 ∧ Blk wc g5 (relArr r) 40 ∧ Ch nob w wc)
  case first =>
    cases h1 : (bits .and .i64 x 1 != 0) with
    | false =>
      have HQ := Lib.hid (show F = if askB x 1 = true then unionR F S 64 else F from by rw [show askB x 1 = false from h1]; rfl)
      go_wp2_with fail
      go_meet
      exact ⟨F, rfl, HQ, okF, h4, h5, hc5⟩
    | true =>
      have HQ := Lib.hid (show unionR F S 64 = if askB x 1 = true then unionR F S 64 else F from by rw [show askB x 1 = true from h1]; rfl)
      have HUN := Lib.hid (fun (u : Ext w5) => ext_of (union_rel F S okF okS u.val))
      have HR1 := Lib.hid (fun (u : World) (h : ∃ m : Ext w5, u = m.val) => show u.rangeAt go 1 (relArr S).toList from by obtain ⟨m, rfl⟩ := h; exact HRS.out _ (hc5.seq m.ch))
      go_wp2_with fail
      refine wp_region_ch_tail 6 (by kernel_rfl) (by kernel_rfl) (Ch.refl nob w5) ?_
      simp only [List.take_succ_cons, List.take_zero, List.drop_succ_cons, List.drop_zero]
      repeat (first
        | (go_big_quiet_want; refine quiet_load_row 40 (.tmp 5) rfl g5 rfl 40 (relArr F) (by rintro _ ⟨u, rfl⟩; exact Ext.blk h5 u) _ rfl rfl (by rw [relArr_size]; kernel_rfl) ?_; simp only [Act.put, List.setIfInBounds_toArray, List.set_cons_succ, List.set_cons_zero]; go_big_quiet_on)
        | (go_big_quiet_want; refine quiet_load_rel (.tmp 16) rfl go 1 rfl S HR1.out ?_; simp only [Act.put, List.setIfInBounds_toArray, List.set_cons_succ, List.set_cons_zero]; go_big_quiet_on)
        | go_big_quiet_step (first | (go_at_call 79; exact HUN.out _)))
      refine wpQuiet_nil ?_
      rintro wq ⟨⟨wq2, hcq⟩, hwq⟩
      obtain rfl : wq = wq2 := hwq
      have h4q := h4.ch hcq (fun h => h)
      have h5q := h5.ch hcq (fun h => h)
      have hcq2 := hc5.seq hcq
      refine wpList_store_row rfl 40 (.tmp 5) (.tmp 18) rfl g5 (relArr (unionR F S 64)) rfl rfl 40 _ h5q (by rw [relArr_size]; kernel_rfl) (by rw [relArr_size, relArr_size]) (relArr_cells _) ?_
      have h5r := h5q.row (relArr (unionR F S 64))
      have hch := (Ch.refl (· = g5) wq).setRow g5 (relArr (unionR F S 64)) (fun _ => rfl)
      have h4r := h4q.ch hch HG.out.1
      have hcr := hcq2.fresh hch HG.out.2.2
      clear h4q h5q hcq2 hch hcq
      go_wp2_with fail
      go_meet
      exact ⟨_, rfl, HQ, unionR_ok okF okS 64, h4r, h5r, hcr⟩
  case rest =>
    obtain ⟨r, rfl, HQ, okr, h4c, h5c, hcc⟩ := hcut
    clear h4 h5 hc5
    go_upto_if 21 with (fail)
    go_cut [5] (fun p wd => ∃ r2, p = .pointer (some ⟨g5, 0, none⟩) ∧ Hid (r2 = if askB x 32 = true then unionR r T 64 else r) ∧ Blk wd g4 (relArr fun _ => 0) 40 ∧ Blk wd g5 (relArr r2) 40 ∧ Ch nob w wd)
    case first =>
      cases h1 : (bits .and .i64 x 32 != 0) with
      | false =>
        have HQ2 := Lib.hid (show r = if askB x 32 = true then unionR r T 64 else r from by rw [show askB x 32 = false from h1]; rfl)
        go_wp2_with fail
        go_meet
        exact ⟨r, rfl, HQ2, h4c, h5c, hcc⟩
      | true =>
        have HQ2 := Lib.hid (show unionR r T 64 = if askB x 32 = true then unionR r T 64 else r from by rw [show askB x 32 = true from h1]; rfl)
        have HUN := Lib.hid (fun (u : Ext wc) => ext_of (union_rel r T okr okT u.val))
        have HR1 := Lib.hid (fun (u : World) (h : ∃ m : Ext wc, u = m.val) => show u.rangeAt go 65 (relArr T).toList from by obtain ⟨m, rfl⟩ := h; exact HRT.out _ (hcc.seq m.ch))
        go_wp2_with fail
        refine wp_region_ch_tail 6 (by kernel_rfl) (by kernel_rfl) (Ch.refl nob wc) ?_
        simp only [List.take_succ_cons, List.take_zero, List.drop_succ_cons, List.drop_zero]
        repeat (first
          | (go_big_quiet_want; refine quiet_load_row 40 (.tmp 5) rfl g5 rfl 40 (relArr r) (by rintro _ ⟨u, rfl⟩; exact Ext.blk h5c u) _ rfl rfl (by rw [relArr_size]; kernel_rfl) ?_; simp only [Act.put, List.setIfInBounds_toArray, List.set_cons_succ, List.set_cons_zero]; go_big_quiet_on)
          | (go_big_quiet_want; refine quiet_load_rel (.tmp 25) rfl go 65 rfl T HR1.out ?_; simp only [Act.put, List.setIfInBounds_toArray, List.set_cons_succ, List.set_cons_zero]; go_big_quiet_on)
          | go_big_quiet_step (first | (go_at_call 79; exact HUN.out _)))
        refine wpQuiet_nil ?_
        rintro wq ⟨⟨wq2, hcq⟩, hwq⟩
        obtain rfl : wq = wq2 := hwq
        have h4q := h4c.ch hcq (fun h => h)
        have h5q := h5c.ch hcq (fun h => h)
        have hcq2 := hcc.seq hcq
        refine wpList_store_row rfl 40 (.tmp 5) (.tmp 27) rfl g5 (relArr (unionR r T 64)) rfl rfl 40 _ h5q (by rw [relArr_size]; kernel_rfl) (by rw [relArr_size, relArr_size]) (relArr_cells _) ?_
        have h5r := h5q.row (relArr (unionR r T 64))
        have hch := (Ch.refl (· = g5) wq).setRow g5 (relArr (unionR r T 64)) (fun _ => rfl)
        have h4r := h4q.ch hch HG.out.1
        have hcr := hcq2.fresh hch HG.out.2.2
        clear h4q h5q hcq2 hch hcq
        go_wp2_with fail
        go_meet
        exact ⟨_, rfl, HQ2, h4r, h5r, hcr⟩
    case rest =>
      obtain ⟨r2, rfl, HQ2, h4d, h5d, hcd⟩ := hcut
      have HZ := Lib.hid (show r2 = Z from by rw [HE.out, HQ2.out, HQ.out])
      clear HE HQ HQ2 h4c h5c hcc
      go_wp2_with (first | (refine wpList_load_row rfl 40 (.tmp 5) rfl g5 rfl 40 (relArr r2) (0, 0) _ h5d rfl rfl (by rw [relArr_size]; kernel_rfl) ?_) | (refine wpList_store_row rfl 40 (.tmp 4) (.tmp 28) rfl g4 (relArr r2) rfl rfl 40 _ h4d (by rw [relArr_size]; kernel_rfl) (by rw [relArr_size, relArr_size]) (relArr_cells _) ?_))
      have h4z := h4d.row (relArr r2)
      have hcz := hcd.setRow g4 (relArr r2) (fun h => by have := HG.out.2.1; omega)
      exact bodyPost_ret (v := .agg (relArr r2)) (results_cell_row rfl _ _ g4 40 (relArr r2) (0, 0) _ rfl h4z rfl rfl (by rw [relArr_size]; kernel_rfl)) rfl ⟨by rw [HZ.out], hcz⟩
end Go.Proofs.YtlhfpnkfapghoaaDoor
end

section
/- Package least: rivals; one step of what follows; whom one sees. No condition but each theorem's own. -/
set_option linter.unusedVariables false
set_option linter.unusedSimpArgs false
namespace Go.Proofs.YtlhfpnkfapghoaaDoor
open Go.RowKit
attribute [local go_sem ↓] zero_rel

set_option maxRecDepth 100000 in
set_option maxHeartbeats 4000000 in
theorem rivals_least (w : World) (go n : Nat) (S T F R co : Nat → Nat) (hO : Obj w go n S T F R) (okc : RelOK co) :
    Calls Tryd.prog 80 #[.pointer (some ⟨go, 0, none⟩), .agg (relArr co)] w fun e w' => e = .returned (.agg (relArr (rivC R co 64))) ∧ Ch nob w w' := by
  obtain ⟨h3, h4, hc1, _⟩ := two_new w (relArr co) (relArr fun _ => 0) 40 40
  have HRV := Lib.hid hO.riv
  have okR := hO.okR
  clear hO
  have h3' : Blk ((w.alloc (.cells (relArr co) 40)).alloc (.cells (relArr fun _ => 0) 40)) w.heap.size (relArr (rivC R co 0)) 40 := by rw [rivC_zero]; exact h3
  go_enter Tryd.func80, Tryd.ntmps80
  go_wp2_with fail
  generalize (w.alloc _).alloc _ = w1 at h3 h3' h4 hc1 ⊢
  obtain ⟨g3, hg3⟩ : ∃ g, w.heap.size = g := ⟨_, rfl⟩
  obtain ⟨g4, hg4⟩ : ∃ g, w.heap.size + 1 = g := ⟨_, rfl⟩
  have HG := Lib.hid (show g3 ≠ g4 ∧ w.heap.size ≤ g3 ∧ w.heap.size ≤ g4 by omega)
  rw [hg3] at h3'
  rw [hg4] at h4
  rw [hg4, hg3]
  clear hg3 hg4 h3
  go_loopw [6] (fun q wr => ∃ i : Nat, q = .int .i64 i ∧ i ≤ 64 ∧ Blk wr g3 (relArr (rivC R co i)) 40 ∧ Blk wr g4 (relArr fun _ => 0) 40 ∧ Ch nob w wr) (fun q _ => 64 - (intOf q).toNat)
  case atStart => exact ⟨0, rfl, by omega, h3', h4, hc1⟩
  case round =>
    clear h3' h4 hc1
    obtain ⟨i, rfl, hi, h3, h4, hc⟩ := hrel
    by_cases hlt : i < 64
    · have hd : decide ((i : Int) < 64) = true := decide_eq_true (by omega)
      have hx := h3.relAt i hlt
      have hst := Lib.hid (rivC_step R co i)
      have hci : rivC R co i i = co i := by unfold rivC; rw [if_neg (by omega)]
      rw [hci] at hx
      have hand : bits .and .u64 (co i : Int) (R i : Int) = ((co i &&& R i : Nat) : Int) := and_lit64 (co i) (R i : Int) (R i) rfl (okc i) (okR i)
      have hfr := h3.free i
      have X0 := fun u : Ext wr => Ext.cell hx u
      have HR := Lib.hid (fun (u : Ext wr) => ext_of (HRV.out i hlt u.val (hc.seq u.ch)))
      obtain ⟨y, hy⟩ : ∃ y, co i = y := ⟨_, rfl⟩
      obtain ⟨z, hz⟩ : ∃ z, R i = z := ⟨_, rfl⟩
      rw [hy] at hx hand hst X0
      rw [hz] at HR hand hst
      have HST := Lib.hid hst
      have HAND := Lib.hid hand
      clear hci hy hz hst hand hfr
      go_wp2_with fail
      refine wp_region_ch_tail 8 (by kernel_rfl) (by kernel_rfl) (Ch.refl nob wr) ?_
      simp only [List.take_succ_cons, List.take_zero, List.drop_succ_cons, List.drop_zero]
      repeat go_big_quiet_step (first | (go_at_call 121; exact HR.out _))
      refine wpQuiet_nil ?_
      rintro wq ⟨⟨wq2, hcq⟩, hwq⟩
      obtain rfl : wq = wq2 := hwq
      have h3q := h3.ch hcq (fun h => h)
      have h4q := h4.ch hcq (fun h => h)
      have hcq2 := hc.seq hcq
      have hxq := h3q.relAt i hlt
      have hfr := h3q.free i
      have h3r := h3q.relSet i (y &&& z)
      rw [HST.out] at h3r
      have hch : Ch (· = g3) wq (wq.setCell ⟨g3, i, none⟩ (.int .u64 ((y &&& z : Nat) : Int))) := (Ch.refl _ _).setCell _ _ (fun _ => rfl)
      have h4r := h4q.ch hch (fun e => HG.out.1 e.symm)
      have hcr := hcq2.fresh hch HG.out.2.1
      clear h3q h4q hcq2 hch hcq h3 h4 hc X0 hx
      rw [HAND.out]
      go_wp2_with fail
      go_roundw
      case rel => exact ⟨i + 1, by go_num, by omega, h3r, h4r, hcr⟩
      case measure => simp [intOf]; omega
    · obtain rfl : i = 64 := by omega
      have hd : decide ((64 : Int) < 64) = false := by decide
      obtain ⟨r2, hr2⟩ : ∃ r, rivC R co 64 = r := ⟨_, rfl⟩
      rw [hr2] at h3
      have HR2 := Lib.hid hr2
      clear hr2
      go_wp2_with (first | (refine wpList_load_row rfl 40 (.tmp 3) rfl g3 rfl 40 (relArr r2) (0, 0) _ h3 rfl rfl (by rw [relArr_size]; kernel_rfl) ?_) | (refine wpList_store_row rfl 40 (.tmp 4) (.tmp 18) rfl g4 (relArr r2) rfl rfl 40 _ h4 (by rw [relArr_size]; kernel_rfl) (by rw [relArr_size, relArr_size]) (relArr_cells _) ?_))
      have h4z := h4.row (relArr r2)
      have hcz := hc.setRow g4 (relArr r2) (fun h => by have := HG.out.2.2; omega)
      exact bodyPost_ret (v := .agg (relArr r2)) (results_cell_row rfl _ _ g4 40 (relArr r2) (0, 0) _ rfl h4z rfl rfl (by rw [relArr_size]; kernel_rfl)) rfl ⟨by rw [HR2.out], hcz⟩
theorem three_newB (w : World) (a b c : Array Value) (T : TypeId) : Blk (((w.alloc (.cells a T)).alloc (.cells b T)).alloc (.cells c T)) w.heap.size a T ∧ Blk (((w.alloc (.cells a T)).alloc (.cells b T)).alloc (.cells c T)) (w.heap.size + 1) b T ∧ Blk (((w.alloc (.cells a T)).alloc (.cells b T)).alloc (.cells c T)) (w.heap.size + 2) c T ∧ Ch nob w (((w.alloc (.cells a T)).alloc (.cells b T)).alloc (.cells c T)) := by
  obtain ⟨h1, h2, h3, h4⟩ := two_new w a b T T
  have k1 := Blk.new ((w.alloc (.cells a T)).alloc (.cells b T)) c T
  have hc : Ch nob ((w.alloc (.cells a T)).alloc (.cells b T)) (((w.alloc (.cells a T)).alloc (.cells b T)).alloc (.cells c T)) := (Ch.refl _ _).alloc _
  rw [h4] at k1
  exact ⟨h1.ch hc (fun h => h), h2.ch hc (fun h => h), k1, h3.seq hc⟩
set_option maxRecDepth 100000 in
set_option maxHeartbeats 4000000 in
theorem grow_least (w : World) (x : Int) (v co : Nat → Nat) (okv : RelOK v) (okc : RelOK co) (hT : Tab w) :
    Calls Tryd.prog 81 #[.agg (relArr v), .agg (relArr co), .int .i64 x] w fun e w' => e = .returned (.agg (relArr (growR x co v))) ∧ Ch nob w w' := by
  obtain ⟨h3, h4, h6, hc6⟩ := three_newB w (relArr v) (relArr co) (relArr fun _ => 0) 40
  have HTT := Lib.hid hT
  have HE := Lib.hid (show growR x co v = (if askB x 4 = true then unionR (growA x v) (thenR co (growA x v)) 64 else growA x v) from rfl)
  have HEA := Lib.hid (show growA x v = (if askB x 2 = true then unionR v (thenR v v) 64 else v) from rfl)
  have okA := Lib.hid (growA_ok x okv)
  obtain ⟨Z, hZ⟩ : ∃ Z, growR x co v = Z := ⟨_, rfl⟩
  obtain ⟨Y, hY⟩ : ∃ Y, growA x v = Y := ⟨_, rfl⟩
  rw [hZ, hY] at HE
  rw [hY] at HEA okA
  rw [hZ]
  clear hT hZ hY
  go_enter Tryd.func81, Tryd.ntmps81
  go_upto_if 9 with (fail)
  generalize ((w.alloc _).alloc _).alloc _ = w5 at h3 h4 h6 hc6 ⊢
  obtain ⟨g3, hg3⟩ : ∃ g, w.heap.size = g := ⟨_, rfl⟩
  obtain ⟨g4, hg4⟩ : ∃ g, w.heap.size + 1 = g := ⟨_, rfl⟩
  obtain ⟨g6, hg6⟩ : ∃ g, w.heap.size + 2 = g := ⟨_, rfl⟩
  have HG := Lib.hid (show (g3 ≠ g4 ∧ g3 ≠ g6 ∧ g4 ≠ g6) ∧ w.heap.size ≤ g3 ∧ w.heap.size ≤ g4 ∧ w.heap.size ≤ g6 by omega)
  rw [hg3] at h3
  rw [hg4] at h4
  rw [hg6] at h6
  rw [hg6, hg4, hg3]
  clear hg3 hg4 hg6
  go_cut [3] (fun p wc => ∃ r, p = .pointer (some ⟨g3, 0, none⟩) ∧ Hid (r = Y) ∧ Blk wc g3 (relArr r) 40 ∧ Blk wc g4 (relArr co) 40 ∧ Blk wc g6 (relArr fun _ => 0) 40 ∧ Ch nob w wc)
  case first =>
    cases h1 : (bits .and .i64 x 2 != 0) with
    | false =>
      have HQ := Lib.hid (show v = Y from by rw [HEA.out, show askB x 2 = false from h1]; rfl)
      go_wp2_with fail
      go_meet
      exact ⟨v, rfl, HQ, h3, h4, h6, hc6⟩
    | true =>
      have HQ := Lib.hid (show unionR v (thenR v v) 64 = Y from by rw [HEA.out, show askB x 2 = true from h1]; rfl)
      have HTH := Lib.hid (fun (u : Ext w5) => ext_of (then_rel v v okv okv u.val (HTT.out.keep (hc6.seq u.ch))))
      have HUN := Lib.hid (fun (u : Ext w5) => ext_of (union_rel v (thenR v v) okv (thenR_ok v okv) u.val))
      go_wp2_with fail
      refine wp_region_ch_tail 5 (by kernel_rfl) (by kernel_rfl) (Ch.refl nob w5) ?_
      simp only [List.take_succ_cons, List.take_zero, List.drop_succ_cons, List.drop_zero]
      repeat (first
        | (go_big_quiet_want; refine quiet_load_row 40 (.tmp 3) rfl g3 rfl 40 (relArr v) (by rintro _ ⟨u, rfl⟩; exact Ext.blk h3 u) _ rfl rfl (by rw [relArr_size]; kernel_rfl) ?_; simp only [Act.put, List.setIfInBounds_toArray, List.set_cons_succ, List.set_cons_zero]; go_big_quiet_on)
        | go_big_quiet_step (first | (go_at_call 104; exact HTH.out _) | (go_at_call 79; exact HUN.out _)))
      refine wpQuiet_nil ?_
      rintro wq ⟨⟨wq2, hcq⟩, hwq⟩
      obtain rfl : wq = wq2 := hwq
      have h3q := h3.ch hcq (fun h => h)
      have h4q := h4.ch hcq (fun h => h)
      have h6q := h6.ch hcq (fun h => h)
      have hcq2 := hc6.seq hcq
      refine wpList_store_row rfl 40 (.tmp 3) (.tmp 14) rfl g3 (relArr (unionR v (thenR v v) 64)) rfl rfl 40 _ h3q (by rw [relArr_size]; kernel_rfl) (by rw [relArr_size, relArr_size]) (relArr_cells _) ?_
      have h3r := h3q.row (relArr (unionR v (thenR v v) 64))
      have hch := (Ch.refl (· = g3) wq).setRow g3 (relArr (unionR v (thenR v v) 64)) (fun _ => rfl)
      have h4r := h4q.ch hch (fun e => HG.out.1.1 e.symm)
      have h6r := h6q.ch hch (fun e => HG.out.1.2.1 e.symm)
      have hcr := hcq2.fresh hch HG.out.2.1
      clear h3q h4q h6q hcq2 hch hcq
      go_wp2_with fail
      go_meet
      exact ⟨_, rfl, HQ, h3r, h4r, h6r, hcr⟩
  case rest =>
    obtain ⟨r, rfl, HQ, h3c, h4c, h6c, hcc⟩ := hcut
    have hr : r = Y := HQ.out
    subst hr
    clear h3 h4 h6 hc6 HQ HEA
    go_upto_if 17 with (fail)
    go_cut [3] (fun p wd => ∃ r2, p = .pointer (some ⟨g3, 0, none⟩) ∧ Hid (r2 = Z) ∧ Blk wd g3 (relArr r2) 40 ∧ Blk wd g6 (relArr fun _ => 0) 40 ∧ Ch nob w wd)
    case first =>
      cases h1 : (bits .and .i64 x 4 != 0) with
      | false =>
        have HQ2 := Lib.hid (show r = Z from by rw [HE.out, show askB x 4 = false from h1]; rfl)
        go_wp2_with fail
        go_meet
        exact ⟨r, rfl, HQ2, h3c, h6c, hcc⟩
      | true =>
        have HQ2 := Lib.hid (show unionR r (thenR co r) 64 = Z from by rw [HE.out, show askB x 4 = true from h1]; rfl)
        have HTH := Lib.hid (fun (u : Ext wc) => ext_of (then_rel co r okc okA.out u.val (HTT.out.keep (hcc.seq u.ch))))
        have HUN := Lib.hid (fun (u : Ext wc) => ext_of (union_rel r (thenR co r) okA.out (thenR_ok co okA.out) u.val))
        go_wp2_with fail
        refine wp_region_ch_tail 5 (by kernel_rfl) (by kernel_rfl) (Ch.refl nob wc) ?_
        simp only [List.take_succ_cons, List.take_zero, List.drop_succ_cons, List.drop_zero]
        repeat (first
          | (go_big_quiet_want; refine quiet_load_row 40 (.tmp 3) rfl g3 rfl 40 (relArr r) (by rintro _ ⟨u, rfl⟩; exact Ext.blk h3c u) _ rfl rfl (by rw [relArr_size]; kernel_rfl) ?_; simp only [Act.put, List.setIfInBounds_toArray, List.set_cons_succ, List.set_cons_zero]; go_big_quiet_on)
          | (go_big_quiet_want; refine quiet_load_row 40 (.tmp 4) rfl g4 rfl 40 (relArr co) (by rintro _ ⟨u, rfl⟩; exact Ext.blk h4c u) _ rfl rfl (by rw [relArr_size]; kernel_rfl) ?_; simp only [Act.put, List.setIfInBounds_toArray, List.set_cons_succ, List.set_cons_zero]; go_big_quiet_on)
          | go_big_quiet_step (first | (go_at_call 104; exact HTH.out _) | (go_at_call 79; exact HUN.out _)))
        refine wpQuiet_nil ?_
        rintro wq ⟨⟨wq2, hcq⟩, hwq⟩
        obtain rfl : wq = wq2 := hwq
        have h3q := h3c.ch hcq (fun h => h)
        have h6q := h6c.ch hcq (fun h => h)
        have hcq2 := hcc.seq hcq
        refine wpList_store_row rfl 40 (.tmp 3) (.tmp 22) rfl g3 (relArr (unionR r (thenR co r) 64)) rfl rfl 40 _ h3q (by rw [relArr_size]; kernel_rfl) (by rw [relArr_size, relArr_size]) (relArr_cells _) ?_
        have h3r := h3q.row (relArr (unionR r (thenR co r) 64))
        have hch := (Ch.refl (· = g3) wq).setRow g3 (relArr (unionR r (thenR co r) 64)) (fun _ => rfl)
        have h6r := h6q.ch hch (fun e => HG.out.1.2.1 e.symm)
        have hcr := hcq2.fresh hch HG.out.2.1
        clear h3q h6q hcq2 hch hcq
        go_wp2_with fail
        go_meet
        exact ⟨_, rfl, HQ2, h3r, h6r, hcr⟩
    case rest =>
      obtain ⟨r2, rfl, HQ2, h3d, h6d, hcd⟩ := hcut
      clear HE h3c h4c h6c hcc
      go_wp2_with (first | (refine wpList_load_row rfl 40 (.tmp 3) rfl g3 rfl 40 (relArr r2) (0, 0) _ h3d rfl rfl (by rw [relArr_size]; kernel_rfl) ?_) | (refine wpList_store_row rfl 40 (.tmp 6) (.tmp 23) rfl g6 (relArr r2) rfl rfl 40 _ h6d (by rw [relArr_size]; kernel_rfl) (by rw [relArr_size, relArr_size]) (relArr_cells _) ?_))
      have h6z := h6d.row (relArr r2)
      have hcz := hcd.setRow g6 (relArr r2) (fun h => by have := HG.out.2.2.2; omega)
      exact bodyPost_ret (v := .agg (relArr r2)) (results_cell_row rfl _ _ g6 40 (relArr r2) (0, 0) _ rfl h6z rfl rfl (by rw [relArr_size]; kernel_rfl)) rfl ⟨by rw [HQ2.out], hcz⟩
end Go.Proofs.YtlhfpnkfapghoaaDoor
end

section
/- Package least: the least that must be seen, whole. No condition but each theorem's own. -/
set_option linter.unusedVariables false
set_option linter.unusedSimpArgs false
namespace Go.Proofs.YtlhfpnkfapghoaaDoor
open Go.RowKit
attribute [local go_sem ↓] zero_rel

/-- How many stand in a relation that lies in memory. -/
def sumAt (w : World) (g : Nat) : Nat := sumTo (fun i => match w.cell? ⟨g, i, none⟩ with | some (.int _ z) => z.toNat | _ => 0) 64
theorem sumTo_congr {r s : Nat → Nat} : ∀ {n : Nat}, (∀ i, i < n → r i = s i) → sumTo r n = sumTo s n
  | 0, _ => rfl
  | n + 1, h => by
    unfold sumTo
    rw [sumTo_congr (fun i hi => h i (by omega)), h n (by omega)]
theorem Blk.sumAt {w : World} {g : Nat} {r : Nat → Nat} {T : TypeId} (h : Blk w g (relArr r) T) : sumAt w g = sumTo r 64 :=
  sumTo_congr fun i hi => by
    rw [h.relAt i hi]
    show ((r i : Nat) : Int).toNat = r i
    omega
/-- Are two relations the same? -/
theorem wpList_eql_rel {w : World} {ops : Array Oper} {rest : List Oper} {o : Oper} {a : Act} {Q : Exit → Act → World → Prop} (hw : Region.wanted o (yielded ops a.tmps) = true) (x y : Operand) (ho : o.op = .binOp .eql 40 x y 40)
    (r s : Nat → Nat) (hx : a.eval x = .agg (relArr r)) (hy : a.eval y = .agg (relArr s))
    (h : wpList Tryd.prog ops Q rest (a.put o.dst (.bool (eqR r s))) w) : wpList Tryd.prog ops Q (o :: rest) a w :=
  wpList_wanted w hw fun K hK => by
    have hr := eql_rel r s w
    unfold Oper.wp execOp
    simp only [ho, hx, hy, Sem.run_bind, Sem.run_pure, Result.andThen_ok]
    have he : (eqGuard .eql 40 x y (.agg (relArr r)) (.agg (relArr s))).run Tryd.prog w = .ok () w := by apply run_eqGuard_agg; kernel_rfl
    rw [he]
    simp only [Result.andThen_ok, hr]
    exact hK _ _ h
/-- What Of hands back. -/
def RetLst (w : World) (x : Int) (co v : Nat → Nat) (e : Ending) (w' : World) : Prop := ∃ V, e = .returned (.agg (relArr V)) ∧ Lst x co v V ∧ Clo x co (E V) ∧ Ch nob w w'
set_option maxRecDepth 100000 in
set_option maxHeartbeats 4000000 in
theorem of_least (w : World) (x : Int) (go n : Nat) (S T F R : Nat → Nat) (rv : Value) (row : List Int) (hO : Obj w go n S T F R) (hr : Ints w rv row) (hlen : row.length ≤ 1000000) (hT : Tab w) :
    Calls Tryd.prog 21 #[.pointer (some ⟨go, 0, none⟩), .int .i64 x, rv] w (RetLst w x (chainTo row row.length) (mustR x S T F R (chainTo row row.length))) := by
  have HCH := Lib.hid (fun (u : World) (hc : Ch nob w u) => chain_rel rv row u (hr.keep hc) hlen)
  have HBS := Lib.hid (fun (u : World) (hc : Ch nob w u) => base_least u x go n S T F R (hO.keep hc))
  have okc := chainTo_ok row row.length
  obtain ⟨co, hco⟩ : ∃ co, chainTo row row.length = co := ⟨_, rfl⟩
  rw [hco] at HCH okc ⊢
  have HRI := Lib.hid (fun (u : World) (hc : Ch nob w u) => rivals_least u go n S T F R co (hO.keep hc) okc)
  have HGR := Lib.hid (fun (v : Nat → Nat) (okv : RelOK v) (u : World) (hc : Ch nob w u) => grow_least u x v co okv okc (hT.keep hc))
  have okb := baseR_ok x hO.okS hO.okT hO.okF
  have okm := Lib.hid (mustR_ok (R := R) x hO.okS hO.okT hO.okF okc)
  have HE := Lib.hid (show mustR x S T F R co = (if askB x 16 = true then unionR (if askB x 8 = true then unionR (baseR x S T F) (rivC R co 64) 64 else baseR x S T F) co 64 else (if askB x 8 = true then unionR (baseR x S T F) (rivC R co 64) 64 else baseR x S T F)) from rfl)
  obtain ⟨B, hB⟩ : ∃ B, baseR x S T F = B := ⟨_, rfl⟩
  obtain ⟨C, hC⟩ : ∃ C, rivC R co 64 = C := ⟨_, rfl⟩
  obtain ⟨Z, hZ⟩ : ∃ Z, mustR x S T F R co = Z := ⟨_, rfl⟩
  have okC : RelOK C := by rw [← hC]; exact rivC_ok okc 64
  rw [hB] at HBS okb HE
  rw [hC] at HRI HE
  rw [hZ] at okm HE ⊢
  clear hO hr hlen hT hco hB hC hZ
  have h6 := Blk.new w (relArr fun _ => 0) 40
  have hc6 : Ch nob w (w.alloc (.cells (relArr fun _ => 0) 40)) := (Ch.refl _ _).alloc _
  go_enter Tryd.func21, Tryd.ntmps21
  go_wp2_with fail
  generalize w.alloc _ = w0 at h6 hc6 ⊢
  obtain ⟨g6, hg6⟩ : ∃ g, w.heap.size = g := ⟨_, rfl⟩
  have HG6 := Lib.hid (show w.heap.size ≤ g6 by omega)
  rw [hg6] at h6
  rw [hg6]
  clear hg6
  refine (HCH.out w0 hc6).mono ?_
  rintro e w1 ⟨rfl, hcA⟩
  have h6a := h6.ch hcA (fun h => h)
  have hc1 := hc6.seq hcA
  clear h6 hc6 hcA
  have hn7 := Blk.new w1 (relArr fun _ => 0) 40
  obtain ⟨h7, hcB⟩ := new_row w1 (relArr fun _ => 0) (relArr co) 40
  have h6b := h6a.ch hcB (fun h => h)
  have hc2 := hc1.seq hcB
  have hlt6 := h6a.lt
  go_wp2_with (refine wpList_store_row rfl 40 (.tmp 7) (.tmp 11) rfl w1.heap.size (relArr co) rfl rfl 40 _ hn7 (by rw [relArr_size]; kernel_rfl) (by rw [relArr_size, relArr_size]) (relArr_cells _) ?_)
  generalize (w1.alloc _).setRow _ _ = w2 at h7 h6b hc2 hcB ⊢
  obtain ⟨g7, hg7⟩ : ∃ g, w1.heap.size = g := ⟨_, rfl⟩
  have HG7 := Lib.hid (show g6 ≠ g7 ∧ w.heap.size ≤ g7 by have := hc1.size; omega)
  rw [hg7] at h7
  rw [hg7]
  clear hg7 h6a hc1 hn7 hcB hlt6
  refine (HBS.out w2 hc2).mono ?_
  rintro e w3 ⟨rfl, hcA⟩
  have h6c := h6b.ch hcA (fun h => h)
  have h7c := h7.ch hcA (fun h => h)
  have hc3 := hc2.seq hcA
  clear h6b h7 hc2 hcA
  have hn8 := Blk.new w3 (relArr fun _ => 0) 40
  obtain ⟨h8, hcB⟩ := new_row w3 (relArr fun _ => 0) (relArr B) 40
  have h6d := h6c.ch hcB (fun h => h)
  have h7d := h7c.ch hcB (fun h => h)
  have hc4 := hc3.seq hcB
  have hlt6 := h6c.lt
  have hlt7 := h7c.lt
  go_upto_if 17 with (refine wpList_store_row rfl 40 (.tmp 8) (.tmp 14) rfl w3.heap.size (relArr B) rfl rfl 40 _ hn8 (by rw [relArr_size]; kernel_rfl) (by rw [relArr_size, relArr_size]) (relArr_cells _) ?_)
  generalize (w3.alloc _).setRow _ _ = w4 at h8 h6d h7d hc4 hcB ⊢
  obtain ⟨g8, hg8⟩ : ∃ g, w3.heap.size = g := ⟨_, rfl⟩
  have HG8 := Lib.hid (show (g6 ≠ g8 ∧ g7 ≠ g8) ∧ w.heap.size ≤ g8 by have := hc3.size; omega)
  rw [hg8] at h8
  rw [hg8]
  clear hg8 h6c h7c hc3 hn8 hcB hlt6 hlt7
  go_cut [8] (fun p wc => ∃ r, p = .pointer (some ⟨g8, 0, none⟩) ∧ Hid (r = if askB x 8 = true then unionR B C 64 else B) ∧ RelOK r ∧ Blk wc g6 (relArr fun _ => 0) 40 ∧ Blk wc g7 (relArr co) 40 ∧ Blk wc g8 (relArr r) 40 ∧ Ch nob w wc)
  case first =>
    cases h1 : (bits .and .i64 x 8 != 0) with
    | false =>
      have HQ := Lib.hid (show B = if askB x 8 = true then unionR B C 64 else B from by rw [show askB x 8 = false from h1]; rfl)
      go_wp2_with fail
      go_meet
      exact ⟨B, rfl, HQ, okb, h6d, h7d, h8, hc4⟩
    | true =>
      have HQ := Lib.hid (show unionR B C 64 = if askB x 8 = true then unionR B C 64 else B from by rw [show askB x 8 = true from h1]; rfl)
      have HR := Lib.hid (fun (u : Ext w4) => ext_of (HRI.out u.val (hc4.seq u.ch)))
      have HUN := Lib.hid (fun (u : Ext w4) => ext_of (union_rel B C okb okC u.val))
      go_wp2_with fail
      refine wp_region_ch_tail 5 (by kernel_rfl) (by kernel_rfl) (Ch.refl nob w4) ?_
      simp only [List.take_succ_cons, List.take_zero, List.drop_succ_cons, List.drop_zero]
      repeat (first
        | (go_big_quiet_want; refine quiet_load_row 40 (.tmp 8) rfl g8 rfl 40 (relArr B) (by rintro _ ⟨u, rfl⟩; exact Ext.blk h8 u) _ rfl rfl (by rw [relArr_size]; kernel_rfl) ?_; simp only [Act.put, List.setIfInBounds_toArray, List.set_cons_succ, List.set_cons_zero]; go_big_quiet_on)
        | (go_big_quiet_want; refine quiet_load_row 40 (.tmp 7) rfl g7 rfl 40 (relArr co) (by rintro _ ⟨u, rfl⟩; exact Ext.blk h7d u) _ rfl rfl (by rw [relArr_size]; kernel_rfl) ?_; simp only [Act.put, List.setIfInBounds_toArray, List.set_cons_succ, List.set_cons_zero]; go_big_quiet_on)
        | go_big_quiet_step (first | (go_at_call 80; exact HR.out _) | (go_at_call 79; exact HUN.out _)))
      refine wpQuiet_nil ?_
      rintro wq ⟨⟨wq2, hcq⟩, hwq⟩
      obtain rfl : wq = wq2 := hwq
      have h6q := h6d.ch hcq (fun h => h)
      have h7q := h7d.ch hcq (fun h => h)
      have h8q := h8.ch hcq (fun h => h)
      have hcq2 := hc4.seq hcq
      refine wpList_store_row rfl 40 (.tmp 8) (.tmp 22) rfl g8 (relArr (unionR B C 64)) rfl rfl 40 _ h8q (by rw [relArr_size]; kernel_rfl) (by rw [relArr_size, relArr_size]) (relArr_cells _) ?_
      have h8r := h8q.row (relArr (unionR B C 64))
      have hch := (Ch.refl (· = g8) wq).setRow g8 (relArr (unionR B C 64)) (fun _ => rfl)
      have h6r := h6q.ch hch HG8.out.1.1
      have h7r := h7q.ch hch HG8.out.1.2
      have hcr := hcq2.fresh hch HG8.out.2
      clear h6q h7q h8q hcq2 hch hcq
      go_wp2_with fail
      go_meet
      exact ⟨_, rfl, HQ, unionR_ok okb okC 64, h6r, h7r, h8r, hcr⟩
  case rest =>
    obtain ⟨r, rfl, HQ, okr, h6c, h7c, h8c, hcc⟩ := hcut
    clear h8 h6d h7d hc4
    go_upto_if 25 with (fail)
    go_cut [8] (fun p wd => p = .pointer (some ⟨g8, 0, none⟩) ∧ Blk wd g6 (relArr fun _ => 0) 40 ∧ Blk wd g7 (relArr co) 40 ∧ Blk wd g8 (relArr Z) 40 ∧ Ch nob w wd)
    case first =>
      cases h1 : (bits .and .i64 x 16 != 0) with
      | false =>
        have HQ2 := Lib.hid (show r = Z from by rw [HE.out, HQ.out, show askB x 16 = false from h1]; rfl)
        go_wp2_with fail
        go_meet
        exact ⟨rfl, h6c, h7c, by rw [← HQ2.out]; exact h8c, hcc⟩
      | true =>
        have HQ2 := Lib.hid (show unionR r co 64 = Z from by rw [HE.out, HQ.out, show askB x 16 = true from h1]; rfl)
        go_wp2_with (first
          | (refine wpList_load_row rfl 40 (.tmp 8) rfl g8 rfl 40 (relArr r) (0, 0) _ h8c rfl rfl (by rw [relArr_size]; kernel_rfl) ?_)
          | (refine wpList_load_row rfl 40 (.tmp 7) rfl g7 rfl 40 (relArr co) (0, 0) _ h7c rfl rfl (by rw [relArr_size]; kernel_rfl) ?_))
        refine (union_rel r co okr okc _).mono ?_
        rintro e wq ⟨rfl, hcq⟩
        have h6q := h6c.ch hcq (fun h => h)
        have h7q := h7c.ch hcq (fun h => h)
        have h8q := h8c.ch hcq (fun h => h)
        have hcq2 := hcc.seq hcq
        rw [HQ2.out]
        have h8r := h8q.row (relArr Z)
        have hch := (Ch.refl (· = g8) wq).setRow g8 (relArr Z) (fun _ => rfl)
        have h6r := h6q.ch hch HG8.out.1.1
        have h7r := h7q.ch hch HG8.out.1.2
        have hcr := hcq2.fresh hch HG8.out.2
        clear h6q h7q hcq2 hch hcq
        go_wp2_with (refine wpList_store_row rfl 40 (.tmp 8) (.tmp 28) rfl g8 (relArr Z) rfl rfl 40 _ h8q (by rw [relArr_size]; kernel_rfl) (by rw [relArr_size, relArr_size]) (relArr_cells _) ?_)
        go_meet
        exact ⟨rfl, h6r, h7r, h8r, hcr⟩
    case rest =>
      obtain ⟨rfl, h6d, h7d, h8d, hcd⟩ := hcut
      have HL0 := Lib.hid (Lst.start x co okm.out)
      clear h6c h7c h8c hcc HQ HE
      go_wp2_with fail
      go_loopw [9] (fun p wr => ∃ V, Hid (Lst x co Z V) ∧ Blk wr g6 (relArr fun _ => 0) 40 ∧ Blk wr g7 (relArr co) 40 ∧ Blk wr g8 (relArr V) 40 ∧ Ch nob w wr) (fun p wr => 4096 - sumAt wr g8)
      case atStart => exact ⟨Z, HL0, h6d, h7d, h8d, hcd⟩
      case round =>
        clear h6d h7d h8d hcd HL0
        obtain ⟨V, HL, h6, h7, h8, hc⟩ := hrel
        have okV := HL.out.ok
        go_wp2_with (first
          | (refine wpList_load_row rfl 40 (.tmp 8) rfl g8 rfl 40 (relArr V) (0, 0) _ h8 rfl rfl (by rw [relArr_size]; kernel_rfl) ?_)
          | (refine wpList_load_row rfl 40 (.tmp 7) rfl g7 rfl 40 (relArr co) (0, 0) _ h7 rfl rfl (by rw [relArr_size]; kernel_rfl) ?_))
        have hsum := Lib.hid h8.sumAt
        have hstep := Lib.hid HL.out.step
        have hdone := Lib.hid HL.out.done
        have hmore := Lib.hid (fun h => sum_grow (x := x) (co := co) okV h)
        have hg := Lib.hid (HGR.out V okV wr hc)
        obtain ⟨N, hN⟩ : ∃ N, growR x co V = N := ⟨_, rfl⟩
        rw [hN] at hstep hdone hmore hg
        clear hN
        refine hg.out.mono ?_
        rintro e wq ⟨rfl, hcq⟩
        have h6q := h6.ch hcq (fun h => h)
        have h7q := h7.ch hcq (fun h => h)
        have h8q := h8.ch hcq (fun h => h)
        have hcq2 := hc.seq hcq
        clear h6 h7 h8 hc hcq hg
        have hn9 := Blk.new wq (relArr fun _ => 0) 40
        obtain ⟨h9, hcB⟩ := new_row wq (relArr fun _ => 0) (relArr N) 40
        have h6n := h6q.ch hcB (fun h => h)
        have h7n := h7q.ch hcB (fun h => h)
        have h8n := h8q.ch hcB (fun h => h)
        have hcn := hcq2.seq hcB
        have hl8 := h8q.lt
        have hsz := hcq2.size
        have HG9 := Lib.hid (show g8 ≠ wq.heap.size ∧ w.heap.size ≤ wq.heap.size by omega)
        clear h6q h7q h8q hcq2 hcB hl8 hsz
        obtain ⟨b, hb⟩ : ∃ b, eqR N V = b := ⟨_, rfl⟩
        have HB := Lib.hid hb
        clear hb
        cases b with
        | true =>
          have hclo := Lib.hid (hdone.out HB.out)
          clear hdone hmore hstep hsum
          go_upto_if 35 with (first
            | (refine wpList_store_row rfl 40 (.tmp 9) (.tmp 32) rfl wq.heap.size (relArr N) rfl rfl 40 _ hn9 (by rw [relArr_size]; kernel_rfl) (by rw [relArr_size, relArr_size]) (relArr_cells _) ?_)
            | (refine wpList_load_row rfl 40 (.tmp 9) rfl wq.heap.size rfl 40 (relArr N) (0, 0) _ h9 rfl rfl (by rw [relArr_size]; kernel_rfl) ?_)
            | (refine wpList_load_row rfl 40 (.tmp 8) rfl g8 rfl 40 (relArr V) (0, 0) _ h8n rfl rfl (by rw [relArr_size]; kernel_rfl) ?_)
            | (refine wpList_eql_rel rfl (.tmp 33) (.tmp 34) rfl N V rfl rfl ?_; rw [HB.out]; simp only [Act.put, List.setIfInBounds_toArray, List.set_cons_succ, List.set_cons_zero]))
          generalize (wq.alloc _).setRow _ _ = wn at h9 h6n h7n h8n hcn ⊢
          go_wp2_with (first
            | (refine wpList_load_row rfl 40 (.tmp 8) rfl g8 rfl 40 (relArr V) (0, 0) _ h8n rfl rfl (by rw [relArr_size]; kernel_rfl) ?_)
            | (refine wpList_store_row rfl 40 (.tmp 6) (.tmp 36) rfl g6 (relArr V) rfl rfl 40 _ h6n (by rw [relArr_size]; kernel_rfl) (by rw [relArr_size, relArr_size]) (relArr_cells _) ?_))
          have h6z := h6n.row (relArr V)
          have hcz := hcn.setRow g6 (relArr V) (fun h => by have := HG6.out; omega)
          exact bodyPost_ret (v := .agg (relArr V)) (results_cell_row rfl _ _ g6 40 (relArr V) (0, 0) _ rfl h6z rfl rfl (by rw [relArr_size]; kernel_rfl)) rfl ⟨V, rfl, HL.out, hclo.out, hcz⟩
        | false =>
          have hlt := Lib.hid (hmore.out HB.out)
          clear hdone hmore
          go_upto_if 35 with (first
            | (refine wpList_store_row rfl 40 (.tmp 9) (.tmp 32) rfl wq.heap.size (relArr N) rfl rfl 40 _ hn9 (by rw [relArr_size]; kernel_rfl) (by rw [relArr_size, relArr_size]) (relArr_cells _) ?_)
            | (refine wpList_load_row rfl 40 (.tmp 9) rfl wq.heap.size rfl 40 (relArr N) (0, 0) _ h9 rfl rfl (by rw [relArr_size]; kernel_rfl) ?_)
            | (refine wpList_load_row rfl 40 (.tmp 8) rfl g8 rfl 40 (relArr V) (0, 0) _ h8n rfl rfl (by rw [relArr_size]; kernel_rfl) ?_)
            | (refine wpList_eql_rel rfl (.tmp 33) (.tmp 34) rfl N V rfl rfl ?_; rw [HB.out]; simp only [Act.put, List.setIfInBounds_toArray, List.set_cons_succ, List.set_cons_zero]))
          generalize (wq.alloc _).setRow _ _ = wn at h9 h6n h7n h8n hcn ⊢
          have h8r := h8n.row (relArr N)
          have hch := (Ch.refl (· = g8) wn).setRow g8 (relArr N) (fun _ => rfl)
          have h6r := h6n.ch hch HG8.out.1.1
          have h7r := h7n.ch hch HG8.out.1.2
          have hcr := hcn.fresh hch HG8.out.2
          clear h6n h7n hcn hch
          go_wp2_with (first
            | (refine wpList_load_row rfl 40 (.tmp 9) rfl wq.heap.size rfl 40 (relArr N) (0, 0) _ h9 rfl rfl (by rw [relArr_size]; kernel_rfl) ?_)
            | (refine wpList_store_row rfl 40 (.tmp 8) (.tmp 37) rfl g8 (relArr N) rfl rfl 40 _ h8n (by rw [relArr_size]; kernel_rfl) (by rw [relArr_size, relArr_size]) (relArr_cells _) ?_))
          simp only [Act.put, List.setIfInBounds_toArray, List.set_cons_succ, List.set_cons_zero]
          go_roundw
          case rel => exact ⟨N, hstep, h6r, h7r, h8r, hcr⟩
          case measure =>
            rw [h8r.sumAt, hsum.out]
            have := hlt.out
            have := sumTo_le N 64
            omega
end Go.Proofs.YtlhfpnkfapghoaaDoor
end

section
/- Layer 11's parts: whom one sees; which histories are looked at; is a relation just these pairs? No condition but each theorem's own. -/
set_option linter.unusedVariables false
set_option linter.unusedSimpArgs false
namespace Go.Proofs.YtlhfpnkfapghoaaDoor
open Go.RowKit
attribute [local go_sem ↓] zero_rel

/-- Whom one sees. -/
def seesR (V : Nat → Nat) (i : Int) : Nat := if 0 ≤ i ∧ i < 64 then turnTo V 64 i.toNat else 0
theorem seesR_lt (V : Nat → Nat) (i : Int) : seesR V i < 18446744073709551616 := by
  unfold seesR; split
  · exact turnTo_ok V 64 _
  · decide
set_option maxRecDepth 100000 in
set_option maxHeartbeats 4000000 in
theorem sees_least (w : World) (V : Nat → Nat) (i : Int) (okV : RelOK V) (hT : Tab w) : Calls Tryd.prog 32 #[.agg (relArr V), .int .i64 i] w fun e w' => e = .returned (.int .u64 (seesR V i : Nat)) ∧ Ch nob w w' := by
  have h2 := Blk.new w (relArr V) 40
  have hc2 : Ch nob w (w.alloc (.cells (relArr V) 40)) := (Ch.refl _ _).alloc _
  have HTU := Lib.hid (fun (u : World) (hc : Ch nob w u) => turned_rel V okV u (hT.keep hc))
  have okt := turnTo_ok V 64
  have HZ := Lib.hid (show seesR V i = if 0 ≤ i ∧ i < 64 then turnTo V 64 i.toNat else 0 from rfl)
  obtain ⟨t, ht⟩ : ∃ t, turnTo V 64 = t := ⟨_, rfl⟩
  rw [ht] at HTU HZ
  obtain ⟨z, hz⟩ : ∃ z, seesR V i = z := ⟨_, rfl⟩
  rw [hz] at HZ ⊢
  clear ht hz hT okt
  go_enter Tryd.func32, Tryd.ntmps32
  go_wp2_with (refine wpList_load_row rfl 40 (.tmp 2) rfl w.heap.size rfl 40 (relArr V) (0, 0) _ h2 rfl rfl (by rw [relArr_size]; kernel_rfl) ?_)
  generalize w.alloc _ = w0 at h2 hc2 ⊢
  refine (HTU.out w0 hc2).mono ?_
  rintro e w1 ⟨rfl, hcA⟩
  have hc1 := hc2.seq hcA
  clear h2 hc2 hcA
  have hn5 := Blk.new w1 (relArr fun _ => 0) 40
  obtain ⟨h5, hcB⟩ := new_row w1 (relArr fun _ => 0) (relArr t) 40
  have hc3 := hc1.seq hcB
  by_cases h0 : i < 0
  · have hd : decide (i < 0) = true := decide_eq_true h0
    have HR := Lib.hid (show z = 0 from by rw [HZ.out, if_neg (by omega)])
    go_wp2_with (refine wpList_store_row rfl 40 (.tmp 5) (.tmp 7) rfl w1.heap.size (relArr t) rfl rfl 40 _ hn5 (by rw [relArr_size]; kernel_rfl) (by rw [relArr_size, relArr_size]) (relArr_cells _) ?_)
    go_ret
    exact ⟨by rw [HR.out]; rfl, hc3⟩
  · have hd : decide (i < 0) = false := decide_eq_false h0
    by_cases h64 : 64 ≤ i
    · have hd2 : decide (64 ≤ i) = true := decide_eq_true h64
      have HR := Lib.hid (show z = 0 from by rw [HZ.out, if_neg (by omega)])
      go_wp2_with (refine wpList_store_row rfl 40 (.tmp 5) (.tmp 7) rfl w1.heap.size (relArr t) rfl rfl 40 _ hn5 (by rw [relArr_size]; kernel_rfl) (by rw [relArr_size, relArr_size]) (relArr_cells _) ?_)
      go_ret
      exact ⟨by rw [HR.out]; rfl, hc3⟩
    · have hd2 : decide (64 ≤ i) = false := decide_eq_false h64
      obtain ⟨k, rfl⟩ := Int.eq_ofNat_of_zero_le (show 0 ≤ i by omega)
      have HR := Lib.hid (show z = t k from by rw [HZ.out, if_pos (by omega)]; rfl)
      have hk : k < 64 := by omega
      have hx := h5.relAt k hk
      have hk2 : (k : Int) < 64 := by omega
      clear h0 h64
      go_wp2_with (refine wpList_store_row rfl 40 (.tmp 5) (.tmp 7) rfl w1.heap.size (relArr t) rfl rfl 40 _ hn5 (by rw [relArr_size]; kernel_rfl) (by rw [relArr_size, relArr_size]) (relArr_cells _) ?_)
      go_ret
      exact ⟨by rw [HR.out]; rfl, hc3⟩
/-- Is a history looked at? -/
def smallZ (hs : List Txr) : Int := if decide (7 < hs.length) || docH hs != 0 then 0 else 1
set_option maxRecDepth 100000 in
set_option maxHeartbeats 4000000 in
theorem small_law11 (w : World) (v : Value) (hs : List Txr) (hv : Txns w v hs) (hL : LensOk hs) : Calls Tryd.prog 16 #[v] w fun e w' => e = .returned (.int .i64 (smallZ hs)) ∧ Ch nob w w' := by
  obtain ⟨A, cp, rfl⟩ := hv.shape
  have HZ := Lib.hid (show smallZ hs = if decide (7 < hs.length) || docH hs != 0 then 0 else 1 from rfl)
  have HCK := Lib.hid (fun (h7 : hs.length ≤ 7) => check_ref06G w (.slice A hs.length cp) hs hv (by
    have key : ∀ k, k ≤ hs.length → countTo hs k ≤ k * reachBytes := by
      intro k
      induction k with
      | zero => intro _; exact Nat.zero_le _
      | succ k ih =>
        intro hk
        have h1 := ih (by omega)
        have h2 := hL k (by omega)
        show countTo hs k + _ ≤ _
        rw [Nat.succ_mul]; omega
    have h1 := key hs.length (Nat.le_refl _)
    have h2 : hs.length * reachBytes ≤ 7 * reachBytes := Nat.mul_le_mul_right _ h7
    have h3 : reachBytes ≤ 1000000000000000 := by decide
    omega))
  have hlen := hv.at.2.1
  obtain ⟨n, hn2⟩ : ∃ n, hs.length = n := ⟨_, rfl⟩
  obtain ⟨d, hd2⟩ : ∃ d, docH hs = d := ⟨_, rfl⟩
  obtain ⟨z, hz⟩ : ∃ z, smallZ hs = z := ⟨_, rfl⟩
  rw [hz, hn2, hd2] at HZ
  rw [hn2, hd2] at HCK
  rw [hn2] at hlen ⊢
  rw [hz]
  clear hv hL hn2 hd2 hz
  by_cases h7 : 7 < n
  · have hd : decide ((7 : Int) < (n : Int)) = true := decide_eq_true (by omega)
    have HR := Lib.hid (show z = 0 from by rw [HZ.out, decide_eq_true h7]; rfl)
    go_enter Tryd.func16, Tryd.ntmps16
    go_wp2_with fail
    go_ret
    exact ⟨ret_int HR.out.symm, Ch.refl _ _⟩
  · have hd : decide ((7 : Int) < (n : Int)) = false := decide_eq_false (by omega)
    have HC := Lib.hid (HCK.out (by omega))
    have HZ2 := Lib.hid (show z = if d != 0 then 0 else 1 from by rw [HZ.out, decide_eq_false h7, Bool.false_or])
    clear HCK HZ
    go_enter Tryd.func16, Tryd.ntmps16
    go_wp2_with fail
    refine HC.out.mono ?_
    rintro e w1 ⟨rfl, hc1⟩
    cases hq : (d != 0) with
    | true =>
      have HR := Lib.hid (show z = 0 from by rw [HZ2.out, hq]; rfl)
      clear HZ2 HC
      go_wp2_with fail
      go_ret
      exact ⟨ret_int HR.out.symm, hc1⟩
    | false =>
      have HR := Lib.hid (show z = 1 from by rw [HZ2.out, hq]; rfl)
      clear HZ2 HC
      go_wp2_with fail
      go_ret
      exact ⟨ret_int HR.out.symm, hc1⟩
set_option maxRecDepth 100000 in
set_option maxHeartbeats 4000000 in
theorem same_law11 (w : World) (V : Nat → Nat) (okV : RelOK V) (n : Nat) (v : Value) (l : List IPair) (hn : n ≤ 64) (hl : Pairs w v l) (hI : Is V l) : Calls Tryd.prog 25 #[.agg (relArr V), .int .i64 n, v] w fun e w' => e = .returned (.int .i64 1) ∧ Ch nob w w' := by
  obtain ⟨A, cp, rfl⟩ := hl.shape
  have HL := Lib.hid (fun (u : World) (a b : Int) (hc : Ch nob w u) => has_ref02 (.slice A l.length cp) l a b u (hl.keep hc))
  have HV := Lib.hid (fun (a b : Int) (u : World) => has_rel V okV a b u)
  have HB := Lib.hid (fun (i k : Nat) => show hasR V (i : Int) (k : Int) = hasP l (i : Int) (k : Int) from by
    rw [Bool.eq_iff_iff, hasP_iff, hI.mem])
  have HSZ := Lib.hid (show (sumTo V 64) = l.length from by rw [← pairsTo_len, (Is.pairs (r := V) 64 rfl).len hI])
  have hlen := hl.at.2.1
  have h3 := Blk.new w (relArr V) 40
  have hc3 : Ch nob w (w.alloc (.cells (relArr V) 40)) := (Ch.refl _ _).alloc _
  obtain ⟨m, hm⟩ : ∃ m, l.length = m := ⟨_, rfl⟩
  rw [hm] at HL HSZ hlen ⊢
  clear hl hI hm
  go_enter Tryd.func25, Tryd.ntmps25
  go_wp2_with (refine wpList_load_row rfl 40 (.tmp 3) rfl w.heap.size rfl 40 (relArr V) (0, 0) _ h3 rfl rfl (by rw [relArr_size]; kernel_rfl) ?_)
  generalize w.alloc _ = w1 at h3 hc3 ⊢
  go_loop [7, 13] (fun s q => ∃ i : Nat, q = .int .i64 i ∧ i ≤ 64 ∧ s = .int .i64 (sumTo V i)) (fun _ q => 64 - (intOf q).toNat)
  case atStart => exact ⟨0, rfl, by omega, rfl⟩
  case round =>
    obtain ⟨i, rfl, hi, rfl⟩ := hrel
    by_cases hlt : i < 64
    · have hix := index_rel V i hlt
      have oi := okV i
      have hs := sumTo_le V i
      have hcl : Bits.count (V i) ≤ 64 := Bits.list_len _
      have HS := Lib.hid (show sumTo V (i + 1) = sumTo V i + Bits.count (V i) from rfl)
      go_wp2_with fail
      refine (count_set (V i) _ oi).mono ?_
      rintro e w2 ⟨rfl, rfl⟩
      go_wp2_with fail
      go_round
      case rel => exact ⟨i + 1, by go_num, by omega, by rw [HS.out]; go_num⟩
      case measure => simp [intOf]; omega
    · obtain rfl : i = 64 := by omega
      rw [HSZ.out]
      go_wp2_with fail
      go_loopw [22] (fun q wr => ∃ i : Nat, q = .int .i64 i ∧ i ≤ n ∧ Blk wr w.heap.size (relArr V) 40 ∧ Ch nob w wr) (fun q _ => n - (intOf q).toNat)
      case atStart => exact ⟨0, rfl, by omega, h3, hc3⟩
      case round =>
        clear h3 hc3
        obtain ⟨i, rfl, hi, h3, hc⟩ := hrel
        by_cases hlt : i < n
        · have hd : decide ((i : Int) < (n : Int)) = true := decide_eq_true (by omega)
          go_wp2_with fail
          go_loopw [26] (fun q wr => ∃ k : Nat, q = .int .i64 k ∧ k ≤ n ∧ Blk wr w.heap.size (relArr V) 40 ∧ Ch nob w wr) (fun q _ => n - (intOf q).toNat)
          case atStart => exact ⟨0, rfl, by omega, h3, hc⟩
          case round =>
            clear h3 hc
            obtain ⟨k, rfl, hk, h3, hc⟩ := hrel
            by_cases hlt2 : k < n
            · have hd2 : decide ((k : Int) < (n : Int)) = true := decide_eq_true (by omega)
              have c1 := Lib.hid (HV.out (i : Int) (k : Int) wr)
              have c2 := Lib.hid (fun u hc => HL.out u (i : Int) (k : Int) hc)
              rw [HB.out i k] at c1
              obtain ⟨b, hb⟩ : ∃ b, hasP l (i : Int) (k : Int) = b := ⟨_, rfl⟩
              rw [hb] at c1 c2
              clear hb
              have hbb := bne_self b
              go_wp2_with (refine wpList_load_row rfl 40 (.tmp 3) rfl w.heap.size rfl 40 (relArr V) (0, 0) _ h3 rfl rfl (by rw [relArr_size]; kernel_rfl) ?_)
              refine c1.out.mono ?_
              rintro e w2 ⟨rfl, hcA⟩
              have h3a := h3.ch hcA (fun h => h)
              have hca := hc.seq hcA
              clear h3 hc hcA c1
              go_wp2_with fail
              refine (c2.out w2 hca).mono ?_
              rintro e _ ⟨rfl, rfl⟩
              clear c2
              go_wp2_with fail
              go_roundw
              case rel => exact ⟨k + 1, by go_num, by omega, h3a, hca⟩
              case measure => simp [intOf]; omega
            · obtain rfl : k = n := by omega
              have hd2 : decide ((k : Int) < (k : Int)) = false := by simp
              go_wp2_with fail
              go_roundw
              case rel => exact ⟨i + 1, by go_num, by omega, h3, hc⟩
              case measure => simp [intOf]; omega
        · obtain rfl : i = n := by omega
          have hd : decide ((i : Int) < (i : Int)) = false := by simp
          have hmm : ((m : Int) != (m : Int)) = false := by simp
          go_wp2_with fail
          go_ret
          exact ⟨rfl, hc⟩
end Go.Proofs.YtlhfpnkfapghoaaDoor
end

section
/- Layer 11's law: three transactions (burgagelaw11.speaks). No condition but each theorem's own. -/
set_option linter.unusedVariables false
set_option linter.unusedSimpArgs false
namespace Go.Proofs.YtlhfpnkfapghoaaDoor
open Go.RowKit Go.Maps
attribute [local go_sem ↓] zero_rel

theorem ints_three {w : World} {g c : Nat} {x y z : Int} {T : TypeId} (hb : Blk w g #[.int .i64 x, .int .i64 y, .int .i64 z] T) (hc : 3 ≤ c) : Ints w (.slice (some ⟨g, 0, none⟩) 3 c) [x, y, z] := by
  refine ⟨_, _, rfl, ⟨hc, by simp⟩, fun _ => ⟨_, rfl, fun j hj => ?_⟩⟩
  rw [own_add]
  obtain rfl | rfl | rfl : j = 0 ∨ j = 1 ∨ j = 2 := by simp at hj; omega
  · exact hb.cell (i := 0) rfl
  · exact hb.cell (i := 1) rfl
  · exact hb.cell (i := 2) rfl
theorem txns_three {w : World} {g c : Nat} {a b d : Txr} {u v x : Value} {T : TypeId} (hb : Blk w g #[.int .i64 a.ses, .int .i64 a.beg, .int .i64 a.com, u, .int .i64 b.ses, .int .i64 b.beg, .int .i64 b.com, v, .int .i64 d.ses, .int .i64 d.beg, .int .i64 d.com, x] T) (hu : Opl w u a.ops) (hv : Opl w v b.ops) (hx : Opl w x d.ops) (hc : 3 ≤ c) :
    Txns w (.slice (some ⟨g, 0, none⟩) 3 c) [a, b, d] := by
  refine ⟨_, _, rfl, ⟨hc, by simp⟩, fun _ => ⟨_, rfl, fun j hj => ?_⟩⟩
  obtain rfl | rfl | rfl : j = 0 ∨ j = 1 ∨ j = 2 := by simp at hj; omega
  · exact ⟨u, hb.cell (i := 0) rfl, hb.cell (i := 1) rfl, hb.cell (i := 2) rfl, hb.cell (i := 3) rfl, hu⟩
  · exact ⟨v, hb.cell (i := 4) rfl, hb.cell (i := 5) rfl, hb.cell (i := 6) rfl, hb.cell (i := 7) rfl, hv⟩
  · exact ⟨x, hb.cell (i := 8) rfl, hb.cell (i := 9) rfl, hb.cell (i := 10) rfl, hb.cell (i := 11) rfl, hx⟩
set_option maxRecDepth 100000 in
set_option maxHeartbeats 4000000 in
theorem speaks11 (w : World) (hT : Tab w) : Calls Tryd.prog 24 #[] w fun e w' => e = .returned (.bool true) ∧ Ch nob w w' := by
  have HTT := Lib.hid (fun (u : World) (hc : Ch nob w u) => hT.keep hc)
  clear hT
  go_enter Tryd.func24, Tryd.ntmps24
  go_wp2_with fail
  refine (op_write 0 1 w).mono ?_
  rintro e w1 ⟨rfl, hc1⟩
  go_wp2_with fail
  have hA := Blk.new w1 #[.bool true, .int .i64 0, .int .i64 1] 121
  have hcA := hc1.alloc (.cells #[.bool true, .int .i64 0, .int .i64 1] 121)
  generalize w1.alloc _ = u1 at hA hcA ⊢
  obtain ⟨g1, hg1⟩ : ∃ g, w1.heap.size = g := ⟨_, rfl⟩
  rw [hg1] at hA ⊢
  clear hg1 hc1
  refine (op_write 1 2 u1).mono ?_
  rintro e w2 ⟨rfl, hc2⟩
  have hA2 := hA.ch hc2 (fun h => h)
  have hc2' := hcA.seq hc2
  clear hA hcA hc2
  go_wp2_with fail
  have hB := Blk.new w2 #[.bool true, .int .i64 1, .int .i64 2] 121
  have hA3 := hA2.alloc (.cells #[.bool true, .int .i64 1, .int .i64 2] 121)
  have hcB := hc2'.alloc (.cells #[.bool true, .int .i64 1, .int .i64 2] 121)
  generalize w2.alloc _ = u2 at hA3 hB hcB ⊢
  obtain ⟨g2, hg2⟩ : ∃ g, w2.heap.size = g := ⟨_, rfl⟩
  rw [hg2] at hB ⊢
  clear hg2 hc2' hA2
  refine (op_read 1 2 u2).mono ?_
  rintro e w3 ⟨rfl, hc3⟩
  have hA4 := hA3.ch hc3 (fun h => h)
  have hB4 := hB.ch hc3 (fun h => h)
  have hc3' := hcB.seq hc3
  clear hA3 hB hcB hc3
  go_wp2_with fail
  have hC := Blk.new w3 #[.bool false, .int .i64 1, .int .i64 2] 121
  have hA5 := hA4.alloc (.cells #[.bool false, .int .i64 1, .int .i64 2] 121)
  have hB5 := hB4.alloc (.cells #[.bool false, .int .i64 1, .int .i64 2] 121)
  have hcC := hc3'.alloc (.cells #[.bool false, .int .i64 1, .int .i64 2] 121)
  have hsz : (w3.alloc (.cells #[.bool false, .int .i64 1, .int .i64 2] 121)).heap.size = w3.heap.size + 1 := by simp
  generalize w3.alloc _ = u3 at hA5 hB5 hC hcC hsz ⊢
  obtain ⟨g3, hg3⟩ : ∃ g, w3.heap.size = g := ⟨_, rfl⟩
  rw [hg3] at hC hsz ⊢
  clear hg3 hc3' hA4 hB4
  have hX := Blk.new u3 #[.int .i64 0, .int .i64 1, .int .i64 6, .slice (some ⟨g1, 0, none⟩) 1 1, .int .i64 1, .int .i64 2, .int .i64 5, .slice (some ⟨g2, 0, none⟩) 1 1, .int .i64 2, .int .i64 3, .int .i64 4, .slice (some ⟨g3, 0, none⟩) 1 1] 118
  have hA6 := hA5.alloc (.cells #[.int .i64 0, .int .i64 1, .int .i64 6, .slice (some ⟨g1, 0, none⟩) 1 1, .int .i64 1, .int .i64 2, .int .i64 5, .slice (some ⟨g2, 0, none⟩) 1 1, .int .i64 2, .int .i64 3, .int .i64 4, .slice (some ⟨g3, 0, none⟩) 1 1] 118)
  have hB6 := hB5.alloc (.cells #[.int .i64 0, .int .i64 1, .int .i64 6, .slice (some ⟨g1, 0, none⟩) 1 1, .int .i64 1, .int .i64 2, .int .i64 5, .slice (some ⟨g2, 0, none⟩) 1 1, .int .i64 2, .int .i64 3, .int .i64 4, .slice (some ⟨g3, 0, none⟩) 1 1] 118)
  have hC6 := hC.alloc (.cells #[.int .i64 0, .int .i64 1, .int .i64 6, .slice (some ⟨g1, 0, none⟩) 1 1, .int .i64 1, .int .i64 2, .int .i64 5, .slice (some ⟨g2, 0, none⟩) 1 1, .int .i64 2, .int .i64 3, .int .i64 4, .slice (some ⟨g3, 0, none⟩) 1 1] 118)
  have hcX := hcC.alloc (.cells #[.int .i64 0, .int .i64 1, .int .i64 6, .slice (some ⟨g1, 0, none⟩) 1 1, .int .i64 1, .int .i64 2, .int .i64 5, .slice (some ⟨g2, 0, none⟩) 1 1, .int .i64 2, .int .i64 3, .int .i64 4, .slice (some ⟨g3, 0, none⟩) 1 1] 118)
  generalize u3.alloc _ = u4 at hA6 hB6 hC6 hX hcX ⊢
  rw [hsz] at hX
  obtain ⟨g4, hg4⟩ : ∃ g, g3 + 1 = g := ⟨_, rfl⟩
  rw [hg4] at hX ⊢
  clear hg4 hsz hA5 hB5 hC hcC
  have hTx : Txns u4 (.slice (some ⟨g4, 0, none⟩) 3 3) s11 := txns_three (a := s11a) (b := s11b) (d := s11c) hX (opl_one (x := ⟨true, 0, 1⟩) hA6 (Nat.le_refl _)) (opl_one (x := ⟨true, 1, 2⟩) hB6 (Nat.le_refl _)) (opl_one (x := ⟨false, 1, 2⟩) hC6 (Nat.le_refl _)) (Nat.le_refl _)
  have HO := Lib.hid (obj_order u4 _ _ hTx s11_ok s11_may.1 s11_may.2)
  clear hA6 hB6 hC6 hX hTx
  refine HO.out.mono ?_
  rintro e w5 ⟨go, M, S, T, F, R, rfl, hM, hob, hbt, hc5⟩
  have hM' := s11_hist hM
  subst hM'
  have hcc := hcX.seq hc5
  have HOB := Lib.hid (fun (u : World) (hc : Ch nob w5 u) => hob.keep hc)
  have HBT := Lib.hid hbt
  clear HO hM hob hbt hcX hc5
  go_wp2_with fail
  have hn := Blk.new w5 #[.int .i64 0, .int .i64 1, .int .i64 2] 3
  have hcn : Ch nob w5 (w5.alloc (.cells #[.int .i64 0, .int .i64 1, .int .i64 2] 3)) := (Ch.refl _ _).alloc _
  generalize w5.alloc _ = w6 at hn hcn ⊢
  obtain ⟨g5, hg5⟩ : ∃ g, w5.heap.size = g := ⟨_, rfl⟩
  rw [hg5] at hn ⊢
  clear hg5
  have hr1 := ints_three (c := 3) hn (Nat.le_refl _)
  have H1 := Lib.hid (of_least w6 4 go 3 S T F R _ _ (HOB.out w6 hcn) hr1 (by decide) (HTT.out w6 (hcc.seq hcn)))
  clear hn hr1
  refine H1.out.mono ?_
  rintro e w7 ⟨V1, rfl, hl1, hcl1, hc7⟩
  have hcn7 := hcn.seq hc7
  have HV1 := Lib.hid (spk_pre HBT.out hl1 hcl1)
  have ok1 := hl1.ok
  clear H1 hcn hc7 hl1 hcl1
  go_wp2_with fail
  have hn := Blk.new w7 #[.int .i64 0, .int .i64 1, .int .i64 2] 3
  have hcn := hcn7.alloc (.cells #[.int .i64 0, .int .i64 1, .int .i64 2] 3)
  generalize w7.alloc _ = w8 at hn hcn ⊢
  obtain ⟨g6, hg6⟩ : ∃ g, w7.heap.size = g := ⟨_, rfl⟩
  rw [hg6] at hn ⊢
  clear hg6 hcn7
  have hr1 := ints_three (c := 3) hn (Nat.le_refl _)
  have H1 := Lib.hid (of_least w8 2 go 3 S T F R _ _ (HOB.out w8 hcn) hr1 (by decide) (HTT.out w8 (hcc.seq hcn)))
  clear hn hr1
  refine H1.out.mono ?_
  rintro e w9 ⟨V2, rfl, hl2, hcl2, hc9⟩
  have hcn9 := hcn.seq hc9
  have HV2 := Lib.hid (spk_tra HBT.out hl2)
  have ok2 := hl2.ok
  clear H1 hcn hc9 hl2 hcl2
  have k1 : hasR V1 (0 : Nat) (2 : Nat) = true := by rw [hasR_nat _ _ _ (by decide) (by decide)]; exact (HV1.out 0 2 (by decide) (by decide)).2 ⟨by decide, rfl⟩
  have k2 : hasR V1 (1 : Nat) (2 : Nat) = true := by rw [hasR_nat _ _ _ (by decide) (by decide)]; exact (HV1.out 1 2 (by decide) (by decide)).2 ⟨by decide, rfl⟩
  have k3 : hasR V2 (0 : Nat) (2 : Nat) = false := by
    rw [hasR_nat _ _ _ (by decide) (by decide)]
    cases h : (V2 0).testBit 2 with
    | false => rfl
    | true => have := ((HV2.out 0 2 (by decide) (by decide)).1 h).1; omega
  have k4 : hasR V2 (1 : Nat) (2 : Nat) = true := by rw [hasR_nat _ _ _ (by decide) (by decide)]; exact (HV2.out 1 2 (by decide) (by decide)).2 ⟨rfl, rfl⟩
  have k5 : seesR V1 2 = 3 := by unfold seesR; rw [if_pos (by decide)]; exact spk_sees (turnTo_ok V1 64) HV1.out
  have C1 := Lib.hid (fun u => has_rel V1 ok1 (0 : Nat) (2 : Nat) u)
  have C2 := Lib.hid (fun u => has_rel V1 ok1 (1 : Nat) (2 : Nat) u)
  have C3 := Lib.hid (fun u => has_rel V2 ok2 (0 : Nat) (2 : Nat) u)
  have C4 := Lib.hid (fun u => has_rel V2 ok2 (1 : Nat) (2 : Nat) u)
  have C5 := Lib.hid (fun u (hc : Ch nob w5 u) => sees_least u V1 2 ok1 (HTT.out u (hcc.seq hc)))
  rw [k1] at C1
  rw [k2] at C2
  rw [k3] at C3
  rw [k4] at C4
  rw [k5] at C5
  clear k1 k2 k3 k4 k5
  obtain ⟨hz4, hz5, hcz, hsz⟩ := two_new w9 (relArr fun _ => 0) (relArr fun _ => 0) 40 40
  have h4a := hz4.row (relArr V1)
  have hchA := (Ch.refl (· = w9.heap.size) ((w9.alloc (.cells (relArr fun _ => 0) 40)).alloc (.cells (relArr fun _ => 0) 40))).setRow w9.heap.size (relArr V1) (fun _ => rfl)
  have h5a := hz5.ch hchA (by omega)
  have hcA := hcz.fresh hchA (by omega)
  have h5b := h5a.row (relArr V2)
  have hchB := (Ch.refl (· = w9.heap.size + 1) (((w9.alloc (.cells (relArr fun _ => 0) 40)).alloc (.cells (relArr fun _ => 0) 40)).setRow w9.heap.size (relArr V1))).setRow (w9.heap.size + 1) (relArr V2) (fun _ => rfl)
  have h4b := h4a.ch hchB (by omega)
  have hcB := hcA.fresh hchB (by omega)
  have hcB9 := hcn9.seq hcB
  clear hcz hsz hchA hcA hchB hcB hcn9
  go_wp2_with (first
    | (refine wpList_store_row rfl 40 (.tmp 4) (.tmp 29) rfl w9.heap.size (relArr V1) rfl rfl 40 _ hz4 (by rw [relArr_size]; kernel_rfl) (by rw [relArr_size, relArr_size]) (relArr_cells _) ?_)
    | (refine wpList_store_row rfl 40 (.tmp 5) (.tmp 32) rfl (w9.heap.size + 1) (relArr V2) rfl rfl 40 _ h5a (by rw [relArr_size]; kernel_rfl) (by rw [relArr_size, relArr_size]) (relArr_cells _) ?_)
    | (refine wpList_load_rowG rfl 40 (.tmp 4) rfl w9.heap.size rfl 40 (relArr V1) (0, 0) _ h4b rfl rfl (by rw [relArr_size]; kernel_rfl) ?_))
  generalize (((w9.alloc _).alloc _).setRow _ _).setRow _ _ = wa at h4b h5b hcB9 ⊢
  clear hz4 hz5 h4a h5a
  refine (C1.out wa).mono ?_
  rintro e wb ⟨rfl, hcb⟩
  have h4c := h4b.ch hcb (fun h => h)
  have h5c := h5b.ch hcb (fun h => h)
  have hcC := hcB9.seq hcb
  clear h4b h5b hcB9 hcb
  go_wp2_with (first
    | (refine wpList_load_rowG rfl 40 (.tmp 4) rfl w9.heap.size rfl 40 (relArr V1) (0, 0) _ h4c rfl rfl (by rw [relArr_size]; kernel_rfl) ?_))
  refine (C2.out wb).mono ?_
  rintro e wd ⟨rfl, hcb⟩
  have h4d := h4c.ch hcb (fun h => h)
  have h5d := h5c.ch hcb (fun h => h)
  have hcD := hcC.seq hcb
  clear h4c h5c hcC hcb
  go_wp2_with (first
    | (refine wpList_load_rowG rfl 40 (.tmp 5) rfl (w9.heap.size + 1) rfl 40 (relArr V2) (0, 0) _ h5d rfl rfl (by rw [relArr_size]; kernel_rfl) ?_))
  refine (C3.out wd).mono ?_
  rintro e we ⟨rfl, hcb⟩
  have h4e := h4d.ch hcb (fun h => h)
  have h5e := h5d.ch hcb (fun h => h)
  have hcE := hcD.seq hcb
  clear h4d h5d hcD hcb
  go_wp2_with (first
    | (refine wpList_load_rowG rfl 40 (.tmp 5) rfl (w9.heap.size + 1) rfl 40 (relArr V2) (0, 0) _ h5e rfl rfl (by rw [relArr_size]; kernel_rfl) ?_))
  refine (C4.out we).mono ?_
  rintro e wf ⟨rfl, hcb⟩
  have h4f := h4e.ch hcb (fun h => h)
  have hcF := hcE.seq hcb
  clear h4e h5e hcE hcb
  go_wp2_with (first
    | (refine wpList_load_rowG rfl 40 (.tmp 4) rfl w9.heap.size rfl 40 (relArr V1) (0, 0) _ h4f rfl rfl (by rw [relArr_size]; kernel_rfl) ?_))
  refine (C5.out wf hcF).mono ?_
  rintro e wg ⟨rfl, hcb⟩
  have hend := hcc.seq (hcF.seq hcb)
  clear h4f hcF hcb
  go_wp2_with fail
  go_ret
  exact ⟨rfl, hend⟩
end Go.Proofs.YtlhfpnkfapghoaaDoor
end

section
/- append to rows of a call's own, and where the row then lies; as a step of a region that draws its order, too. No condition. -/
set_option linter.unusedVariables false
set_option linter.unusedSimpArgs false
namespace Go.Proofs.YtlhfpnkfapghoaaDoor
open Go.RowKit

/-- Where a row lies that has been appended to: where it lay, or in a new block. -/
def AtOld (w : World) (v v' : Value) : Prop := v'.ownBlock = v.ownBlock ∨ v'.ownBlock = some w.heap.size
theorem wpList_append_int_at {P : Program} {w : World} {ops : Array Oper} {rest : List Oper} {o : Oper} {a : Act} {Q : Exit → Act → World → Prop} (hgd : o.guard = none) (s x : Operand) (t e : TypeId)
    (ho : o.op = .call { callee := .builtin .append, args := #[s, x], argTypes := #[t, t] }) (k : IntKind) (bytes : Nat) (he : ElemOK P t e (.int k 0) 1 bytes) (hby : bytes ≤ 1000)
    (base : Nat) (v : Value) (xs : List Int) (hs : a.eval s = v) (hown : OwnK k w base e v xs)
    (g : Nat) (z : Int) (T : TypeId) (hx : a.eval x = .slice (some ⟨g, 0, none⟩) 1 1) (hb : Blk w g #[.int k z] T) (hn : xs.length ≤ 100000000) (hbase : base ≤ w.heap.size)
    (h : ∀ v' w', OwnK k w' base e v' (xs ++ [z]) → w.grownBy w' v.ownBlock → AtOld w v v' → wpList P ops Q rest (a.put o.dst v') w') : wpList P ops Q (o :: rest) a w := by
  obtain ⟨i, hi, hz0, hz1, hz2⟩ := he.get
  refine wpList_append_own_at w hgd s x t ho base e i (.int k 0) 1 bytes he.under hi hz0 hz1 hz2 rfl (by decide) v xs.length _ hs hown ⟨g, 0, none⟩ 1 1 [.int k z] hx rfl ?_ ?_ (by unfold maxLen; omega) ?_ hbase (fun v' w' h1 h2 _ h4 => h v' w' (own_snoc (by simpa using h1) rfl) h2 h4)
  · intro j u hu
    rw [show (⟨g, 0, none⟩ : Addr).add j = ⟨g, j, none⟩ from by unfold Addr.add; split <;> simp_all]
    exact hb.cell (by simpa using hu)
  · intro u hu
    simp at hu
    subst hu; rfl
  · exact Nat.le_trans (Nat.mul_le_mul (show xs.length + 1 ≤ 100000001 by omega) hby) (by decide)
/-- Ints that are read behind a row of the call's own, as a step of a region. -/
theorem step_append_ints {P : Program} {w : World} {ops : Array Oper} {o : Oper} {a : Act} {K : Act → World → Prop} {Q : Exit → Act → World → Prop} {E : Prop} (hgd : o.guard = none) (s x : Operand) (t e : TypeId)
    (ho : o.op = .call { callee := .builtin .append, args := #[s, x], argTypes := #[t, t] }) (k : IntKind) (bytes : Nat) (he : ElemOK P t e (.int k 0) 1 bytes) (hby : bytes ≤ 1000)
    (base : Nat) (v : Value) (xs : List Int) (hs : a.eval s = v) (hown : OwnK k w base e v xs)
    (ad : Addr) (m c : Nat) (ys : List Int) (hx : a.eval x = .slice (some ad) m c) (hsrc : IntsK k w (.slice (some ad) m c) ys) (hn : xs.length ≤ 100000000) (hm : ys.length ≤ 100000000) (hbase : base ≤ w.heap.size)
    (h : ∀ v' w', OwnK k w' base e v' (xs ++ ys) → w.grownBy w' v.ownBlock → AtOld w v v' → K (a.put o.dst v') w') : if Region.wanted o (yielded ops a.tmps) = true then Oper.wp P o a w K Q else E := by
  have hw : Region.wanted o (yielded ops a.tmps) = true := by simp [Region.wanted, hgd]
  rw [if_pos hw]
  obtain ⟨i, hi, hz0, hz1, hz2⟩ := he.get
  obtain ⟨rfl, _, hcell⟩ := hsrc.at
  obtain ⟨v', w', hr, h2, h3, _, h5⟩ := run_append_own_at (P := P) w base t o.type e i (.int k 0) 1 bytes he.under hi hz0 hz1 hz2 rfl (by decide) v xs.length _ hown ad ys.length c (ys.map (.int k)) (by simp) (by
      intro j u hu
      have hj : j < ys.length := by have := (List.getElem?_eq_some_iff.1 hu).1; simpa using this
      obtain ⟨ad', he', hx'⟩ := hcell j hj
      obtain rfl : ad = ad' := by simpa using he'
      rw [hx', ← hu, List.getElem?_map, List.getElem?_eq_getElem hj, List.getD_eq_getElem?_getD, List.getElem?_eq_getElem hj]
      rfl) (by
      intro z hz
      obtain ⟨y, _, rfl⟩ := List.mem_map.1 hz
      rfl) (by unfold maxLen; omega) (Nat.le_trans (Nat.mul_le_mul (show xs.length + ys.length ≤ 200000000 by omega) hby) (by decide)) hbase
  unfold Oper.wp execOp
  simp only [ho, resolve, invoke, builtin, Sem.run_bind, Sem.run_pure, Result.andThen_ok, List.map_toArray, List.map_cons, List.map_nil, hs, hx, hr]
  exact h v' w' (by unfold OwnK; rw [List.length_append, List.map_append]; exact h2) h3 h5
end Go.Proofs.YtlhfpnkfapghoaaDoor
end

section
/- Layer 11's rows: all transactions in an order, drawn by numbers (burgagelaw11.Row). No condition but each theorem's own. -/
set_option linter.unusedVariables false
set_option linter.unusedSimpArgs false
namespace Go.Proofs.YtlhfpnkfapghoaaDoor
open Go.RowKit
attribute [local go_sem ↓] zero_rel Go.wp_at_zero Go.wp_at_succ

theorem IntsK.takeL {k : IntKind} {w : World} {A : Option Addr} {n c : Nat} {xs : List Int} (h : IntsK k w (.slice A n c) xs) (i : Nat) (hi : i ≤ xs.length) (c' : Nat) (hc : i ≤ c') : IntsK k w (.slice A i c') (xs.take i) := by
  obtain ⟨rfl, hl, hx⟩ := h.at
  have e : (xs.take i).length = i := by rw [List.length_take]; omega
  refine ⟨A, c', by rw [e], by rw [e]; omega, fun h0 => ?_⟩
  rw [e] at h0
  obtain ⟨ad, rfl, _⟩ := hx 0 (by omega)
  refine ⟨ad, rfl, fun j hj => ?_⟩
  rw [e] at hj
  obtain ⟨ad', he, hx'⟩ := hx j (by omega)
  obtain rfl : ad = ad' := by simpa using he
  rw [hx', List.getD_eq_getElem?_getD, List.getD_eq_getElem?_getD, List.getElem?_take, if_pos hj]
def sliceL : Value → Nat
  | .slice _ n _ => n
  | _ => 0
/-- All numbers below n. -/
def allN (n : Nat) : List Int := (List.range n).map fun i : Nat => (i : Int)
theorem allN_len (n : Nat) : (allN n).length = n := by unfold allN; rw [List.length_map, List.length_range]
theorem allN_succ (n : Nat) : allN (n + 1) = allN n ++ [(n : Int)] := by unfold allN; rw [List.range_succ, List.map_append]; rfl
theorem allN_mem (n : Nat) (x : Int) : x ∈ allN n ↔ 0 ≤ x ∧ x < n := by
  unfold allN
  rw [List.mem_map]
  constructor
  · rintro ⟨i, hi, rfl⟩
    have := List.mem_range.1 hi
    omega
  · intro h
    exact ⟨x.toNat, List.mem_range.2 (by omega), by omega⟩
theorem allN_nd (n : Nat) : (allN n).Nodup := nodup_map _ (fun a b e => by omega) List.nodup_range
theorem RowOK.of_perm {row : List Int} {n : Nat} (h : row.Perm (allN n)) : RowOK row n :=
  ⟨by rw [h.length_eq, allN_len], fun x hx => (allN_mem n x).1 ((h.mem_iff).1 hx), (h.nodup_iff).2 (allN_nd n)⟩
theorem perm_step {out left : List Int} {n j : Nat} (h : (out ++ left).Perm (allN n)) (hj : j < left.length) : ((out ++ [left.getD j 0]) ++ (left.take j ++ left.drop (j + 1))).Perm (allN n) := by
  have e : left = left.take j ++ left.getD j 0 :: left.drop (j + 1) := by
    rw [List.getD_eq_getElem?_getD, List.getElem?_eq_getElem hj]
    show left = left.take j ++ left[j] :: left.drop (j + 1)
    rw [List.getElem_cons_drop, List.take_append_drop]
  refine List.Perm.trans ?_ h
  rw [List.append_assoc]
  refine List.Perm.append_left out ?_
  conv => rhs; rw [e]
  exact (List.perm_middle (l₁ := left.take j) (a := left.getD j 0) (l₂ := left.drop (j + 1))).symm
def RetRow11 (w : World) (n : Nat) (e : Ending) (w' : World) : Prop := ∃ v row, e = .returned v ∧ Ints w' v row ∧ RowOK row n ∧ Ch nob w w'
set_option maxRecDepth 100000 in
set_option maxHeartbeats 4000000 in
theorem row_law11 (w : World) (n : Nat) (bv : Value) (zs : List Int) (hb : IntsK .u8 w bv zs) (hz : ∀ z ∈ zs, 0 ≤ z ∧ z ≤ 255) (hn : n ≤ 1000) : Calls Tryd.prog 18 #[.int .i64 n, bv] w (RetRow11 w n) := by
  obtain ⟨BA, bc, rfl⟩ := hb.shape
  have HB := Lib.hid hb
  have HZ := Lib.hid hz
  have hblen := hb.at.2.1
  clear hb hz
  go_enter Tryd.func18, Tryd.ntmps18
  go_wp2_with fail
  go_loopw [5, 11] (fun v q wr => ∃ i : Nat, q = .int .i64 i ∧ i ≤ n ∧ OwnK .i64 wr w.heap.size 3 v (allN i) ∧ Ch nob w wr) (fun _ q _ => n - (intOf q).toNat)
  case atStart => exact ⟨0, rfl, by omega, OwnK.nil _ _ _ _, Ch.refl _ _⟩
  case round =>
    obtain ⟨i, rfl, hi, ho, hc⟩ := hrel
    by_cases hlt : i < n
    · have hd : decide ((i : Int) < (n : Int)) = true := decide_eq_true (by omega)
      have hof := Lib.hid (ho.alloc (.cells #[.int .i64 (i : Int)] 3))
      have hc2 := Lib.hid (hc.alloc (.cells #[.int .i64 (i : Int)] 3))
      have hnb := Lib.hid (Blk.new wr #[.int .i64 (i : Int)] 3)
      have hge := hc2.out.size
      have hal := allN_len i
      have HS := Lib.hid (allN_succ i)
      obtain ⟨L, hL⟩ : ∃ L, allN i = L := ⟨_, rfl⟩
      rw [hL] at hof hal HS
      clear ho hc hL
      go_wp2_with (at_builtin; refine wpList_append_int rfl (.tmp 14) (.tmp 16) 35 3 rfl .i64 8 elem_int (by decide) w.heap.size _ L rfl hof.out wr.heap.size (i : Int) 3 rfl hnb.out (by omega) (by omega) ?_; intro v9 w9 hown9 hg9)
      have hc9 := hc2.out.grown_own hg9 (fun b hb => (hof.out.ge b hb).1)
      rw [← HS.out] at hown9
      clear hof hc2 hnb hg9 hge
      go_wp2_with fail
      go_roundw
      case rel => exact ⟨i + 1, by go_num, by omega, hown9, hc9⟩
      case measure => simp [intOf]; omega
    · obtain rfl : i = n := by omega
      have hd : decide ((i : Int) < (i : Int)) = false := by simp
      have HP := Lib.hid (List.Perm.refl (allN i))
      have hint := ho.ints
      have hle := Lib.hid (allN_len i)
      obtain ⟨A0, c0, hsh⟩ := hint.shape
      subst hsh
      clear ho
      obtain ⟨L, hL⟩ : ∃ L, allN i = L := ⟨_, rfl⟩
      rw [hL] at hint hle ⊢
      have HLP : Hid (([] ++ L : List Int).Perm (allN i)) := Lib.hid (by rw [← hL]; exact List.Perm.refl _)
      clear HP hL
      go_wp2_with fail
      go_loopw [5, 6, 8] (fun x o q wr => ∃ (left out : List Int) (m : Nat), q = .int .i64 m ∧ Hid ((out ++ left).Perm (allN i)) ∧ Hid (m + left.length = i) ∧ OwnK .i64 wr w.heap.size 3 o out ∧ Ints wr x left ∧ Hid (∀ b, x.ownBlock = some b → o.ownBlock ≠ some b) ∧ Ch nob w wr) (fun x _ _ _ => sliceL x)
      case atStart => exact ⟨L, [], 0, rfl, HLP, Lib.hid (by rw [hle.out]; omega), OwnK.nil _ _ _ _, hint, Lib.hid (fun b _ h => by cases h), hc⟩
      case round =>
        clear hint hle HLP hc
        obtain ⟨left, out, m, rfl, hpm, hsum, ho, hx, hap, hc⟩ := hrel
        obtain ⟨F, cf, rfl⟩ := hx.shape
        by_cases h0 : 0 < left.length
        · have hd : decide ((0 : Int) < (left.length : Int)) = true := decide_eq_true (by omega)
          have hlen : left.length ≤ 1000 := by have := hsum.out; omega
          have hmm : m ≤ 1000 := by have := hsum.out; omega
          have HX := Lib.hid hx
          clear hx
          go_upto_if 27 with (fail)
          go_cut [9] (fun x wc => ∃ j : Nat, x = .int .i64 j ∧ j < left.length ∧ wc = wr)
          case first =>
            by_cases hmz : m < zs.length
            · have hd2 : decide ((m : Int) < (zs.length : Int)) = true := decide_eq_true (by omega)
              obtain ⟨bd, rfl, hbm⟩ := (HB.out.keep hc).at.2.2 m hmz
              have hzb := HZ.out (zs.getD m 0) (mem_getI hmz)
              obtain ⟨z, hz⟩ : ∃ z, zs.getD m 0 = z := ⟨_, rfl⟩
              rw [hz] at hbm hzb
              clear hz
              go_wp2_with fail
              go_meet
              have hp : (0 : Int) < (left.length : Int) := by omega
              have q1 := Int.emod_nonneg z (show (left.length : Int) ≠ 0 by omega)
              have q2 := Int.emod_lt_of_pos z hp
              exact ⟨(z % (left.length : Int)).toNat, by rw [Int.toNat_of_nonneg q1], by omega, rfl⟩
            · have hd2 : decide ((m : Int) < (zs.length : Int)) = false := decide_eq_false (by omega)
              go_wp2_with fail
              go_meet
              exact ⟨0, rfl, h0, rfl⟩
          case rest =>
            obtain ⟨j, rfl, hj, rfl⟩ := hcut
            have HPM0 := Lib.hid (perm_step hpm.out hj)
            obtain ⟨k, hk⟩ : ∃ k, left.getD j 0 = k := ⟨_, rfl⟩
            rw [hk] at HPM0
            have HPM := HPM0
            have hal : out.length ≤ 1000 := by have := (hpm.out).length_eq; rw [List.length_append, allN_len] at this; omega
            have hcap := HX.out.cap
            obtain ⟨ad, rfl, hxj⟩ := HX.out.at.2.2 j hj
            rw [hk] at hxj
            have hj1 : (j : Int) < (left.length : Int) := by omega
            have hj2 : (j : Int) + 1 ≤ (left.length : Int) := by omega
            have hj3 : (j : Int) ≤ (cf : Int) := by omega
            have hj4 : (0 : Int) ≤ (j : Int) := by omega
            have hj5 : (0 : Int) ≤ (j : Int) + 1 := by omega
            have hj6 : (left.length : Int) ≤ (cf : Int) := by omega
            have hof := Lib.hid (ho.alloc (.cells #[.int .i64 k] 3))
            have hc2 := Lib.hid (hc.alloc (.cells #[.int .i64 k] 3))
            have hnb := Lib.hid (Blk.new wc #[.int .i64 k] 3)
            have hge := hc2.out.size
            have HXA := Lib.hid (HX.out.keep ((Ch.refl nob wc).alloc (.cells #[.int .i64 k] 3)))
            clear hk ho hc HPM0 HX hpm
            have hgez : ¬ (j : Int) < 0 := by omega
            by_cases hcc : cf = j + 1
            · subst hcc
              go_wp2_with (at_builtin; refine wpList_append_int_at rfl (.tmp 36) (.tmp 41) 35 3 rfl .i64 8 elem_int (by decide) w.heap.size _ out rfl hof.out wc.heap.size k 3 rfl hnb.out (by omega) (by omega) ?_; intro v9 w9 hown9 hg9 hat9)
              have hc9 := hc2.out.grown_own hg9 (fun b hb => (hof.out.ge b hb).1)
              have hx9 : Ints w9 (.slice (some ad) left.length (j + 1)) left := HXA.out.grown hg9 (fun b hb e => hap.out b hb e)
              have HGE9 := Lib.hid hown9.ge
              have hlt9 : ad.block < w9.heap.size := by
                have := hx9.at.2.2 j hj
                obtain ⟨ad', he', hc'⟩ := this
                obtain rfl : ad = ad' := by simpa using he'
                have := World.block_lt_of_cell? w9 _ hc'
                rwa [add_block] at this
              have hsz9 : w.heap.size ≤ w9.heap.size := hc9.size
              have HT1 := Lib.hid (hx9.takeL j (by omega) (j + 1) (by omega))
              have HDN := Lib.hid (show left.drop (j + 1) = [] from List.drop_of_length_le (by omega))
              have hjj : (j : Int) ≤ (j : Int) + 1 := by omega
              have hwr : IntKind.i64.wrap ((j : Int) + 1) = (j : Int) + 1 := IntWalk.i64_in _ (by omega)
              have htn : ((j : Int) + 1).toNat = j + 1 := by omega
              have HO9 := Lib.hid hown9
              have HC9 := Lib.hid hc9
              clear hof hc2 hnb HXA hg9 hx9 hown9 hc9 hxj
              go_region_law (first
                | ((refine step_append_ints (by rfl) (.tmp 43) (.tmp 46) 35 3 (by rfl) .i64 8 elem_int (by decide) w9.heap.size _ [] (by rfl) (OwnK.made .i64 w9.drew w9.heap.size 3 (Nat.le_refl _)) ad j (j + 1) (left.take j) (by rfl) (HT1.out.keep (((Ch.refl nob w9).drew).alloc _)) (by simp) (by rw [List.length_take]; omega) (by simp) ?_; intro v7 w7 hown7 hg7 hat7))
                | ((refine step_append_ints (by rfl) (.tmp 47) (.tmp 51) 35 3 (by rfl) .i64 8 elem_int (by decide) w9.heap.size _ ([] ++ left.take j) (by rfl) hown7 ad 0 0 (left.drop (j + 1)) (by rfl) (by rw [HDN.out]; exact IntsK.nil _ _ _ _) (by simp; omega) (by rw [List.length_drop]; omega) (by have := hg7.size; simp at this; omega) ?_; intro v10 w10 hown10 hg10 hat10)))
              simp only [List.getElem_toArray, List.getElem_cons_succ, List.getElem_cons_zero, Act.put, List.setIfInBounds_toArray, List.set_cons_succ, List.set_cons_zero]
              have hc10a : Ch (· = w9.heap.size) w9 w7 := (((Ch.refl (· = w9.heap.size) w9).drew).alloc _).grown hg7 (fun b hb e => by simpa [Value.ownBlock] using e.symm)
              have hc7 : Ch nob w9 w7 := hc10a.mono (fun b hb e => absurd hb (by omega))
              have hv7 : ∀ b, v7.ownBlock = some b → w9.heap.size ≤ b := fun b hb => by
                rcases hat7 with h | h
                · rw [h] at hb
                  have : w9.heap.size = b := by simpa [Value.ownBlock] using hb
                  omega
                · rw [h] at hb; simp at hb; omega
              have hc10 : Ch nob w9 w10 := hc7.grown_own hg10 hv7
              have hv10 : ∀ b, v10.ownBlock = some b → w9.heap.size ≤ b := fun b hb => by
                rcases hat10 with h | h
                · rw [h] at hb; exact hv7 b hb
                · rw [h] at hb
                  have := hc7.size
                  simp at hb; omega
              have ho10 := HO9.out.keep hc10
              have hsep : Hid (∀ b, v10.ownBlock = some b → v9.ownBlock ≠ some b) := Lib.hid (fun b hb e => by
                have h1 := hv10 b hb
                have h2 := (HGE9.out b e).2
                omega)
              have hx10 : Ints w10 v10 (left.take j ++ left.drop (j + 1)) := by
                have := hown10.ints
                rw [List.nil_append] at this
                exact this
              have hc11 := HC9.out.seq hc10
              have hln : Hid (m + 1 + (left.take j ++ left.drop (j + 1)).length = i) := Lib.hid (by rw [List.length_append, List.length_take, List.length_drop]; have := hsum.out; omega)
              have hlm : Hid ((left.take j ++ left.drop (j + 1)).length < left.length) := Lib.hid (by rw [List.length_append, List.length_take, List.length_drop]; omega)
              obtain ⟨L2, hL2⟩ : ∃ L2, left.take j ++ left.drop (j + 1) = L2 := ⟨_, rfl⟩
              rw [hL2] at hx10 hln hlm HPM
              obtain ⟨G, cg, rfl⟩ := hx10.shape
              clear hown7 hg7 hat7 hown10 hg10 hat10 hc10a hc7 hv7 hv10 HC9 HO9 hc10 hwr htn hjj hL2
              go_wp2_with fail
              go_roundw
              case rel => exact ⟨L2, out ++ [k], m + 1, by go_num, HPM, hln, ho10, hx10, hsep, hc11⟩
              case measure => have := hlm.out; simp [sliceL]; omega
            · have hcc2 : ¬ cf = j + 1 := hcc
              go_wp2_with (at_builtin; refine wpList_append_int_at rfl (.tmp 36) (.tmp 41) 35 3 rfl .i64 8 elem_int (by decide) w.heap.size _ out rfl hof.out wc.heap.size k 3 rfl hnb.out (by omega) (by omega) ?_; intro v9 w9 hown9 hg9 hat9)
              have hc9 := hc2.out.grown_own hg9 (fun b hb => (hof.out.ge b hb).1)
              have hx9 : Ints w9 (.slice (some ad) left.length cf) left := HXA.out.grown hg9 (fun b hb e => hap.out b hb e)
              have HGE9 := Lib.hid hown9.ge
              have hlt9 : ad.block < w9.heap.size := by
                have := hx9.at.2.2 j hj
                obtain ⟨ad', he', hc'⟩ := this
                obtain rfl : ad = ad' := by simpa using he'
                have := World.block_lt_of_cell? w9 _ hc'
                rwa [add_block] at this
              have hsz9 : w.heap.size ≤ w9.heap.size := hc9.size
              have HT1 := Lib.hid (hx9.takeL j (by omega) cf (by omega))
              have HD1 := Lib.hid (hx9.drop (j + 1) (by omega) (some (ad.add (j + 1))) (fun _ ad' h => by
                obtain rfl : ad = ad' := by simpa using h
                rfl))
              have hjj : (j : Int) ≤ (j : Int) + 1 := by omega
              have hwr : IntKind.i64.wrap ((j : Int) + 1) = (j : Int) + 1 := IntWalk.i64_in _ (by omega)
              have htn : ((j : Int) + 1).toNat = j + 1 := by omega
              have HO9 := Lib.hid hown9
              have HC9 := Lib.hid hc9
              clear hof hc2 hnb HXA hg9 hx9 hown9 hc9 hxj
              go_region_law (first
                | ((refine step_append_ints (by rfl) (.tmp 43) (.tmp 46) 35 3 (by rfl) .i64 8 elem_int (by decide) w9.heap.size _ [] (by rfl) (OwnK.made .i64 w9.drew w9.heap.size 3 (Nat.le_refl _)) ad j cf (left.take j) (by rfl) (HT1.out.keep (((Ch.refl nob w9).drew).alloc _)) (by simp) (by rw [List.length_take]; omega) (by simp) ?_; intro v7 w7 hown7 hg7 hat7))
                | ((refine step_append_ints (by rfl) (.tmp 47) (.tmp 51) 35 3 (by rfl) .i64 8 elem_int (by decide) w9.heap.size _ ([] ++ left.take j) (by rfl) hown7 (ad.add (j + 1)) (left.length - (j + 1)) (cf - (j + 1)) (left.drop (j + 1)) (by rfl) ((HD1.out.keep (((Ch.refl nob w9).drew).alloc _)).grown hg7 (fun b hb e => by have e1 : ad.block = b := (by simpa [Value.ownBlock, add_block] using hb); have e2 : w9.heap.size = b := (by simpa [Value.ownBlock] using e); omega)) (by simp; omega) (by rw [List.length_drop]; omega) (by have := hg7.size; simp at this; omega) ?_; intro v10 w10 hown10 hg10 hat10)))
              simp only [List.getElem_toArray, List.getElem_cons_succ, List.getElem_cons_zero, Act.put, List.setIfInBounds_toArray, List.set_cons_succ, List.set_cons_zero]
              have hc10a : Ch (· = w9.heap.size) w9 w7 := (((Ch.refl (· = w9.heap.size) w9).drew).alloc _).grown hg7 (fun b hb e => by simpa [Value.ownBlock] using e.symm)
              have hc7 : Ch nob w9 w7 := hc10a.mono (fun b hb e => absurd hb (by omega))
              have hv7 : ∀ b, v7.ownBlock = some b → w9.heap.size ≤ b := fun b hb => by
                rcases hat7 with h | h
                · rw [h] at hb
                  have : w9.heap.size = b := by simpa [Value.ownBlock] using hb
                  omega
                · rw [h] at hb; simp at hb; omega
              have hc10 : Ch nob w9 w10 := hc7.grown_own hg10 hv7
              have hv10 : ∀ b, v10.ownBlock = some b → w9.heap.size ≤ b := fun b hb => by
                rcases hat10 with h | h
                · rw [h] at hb; exact hv7 b hb
                · rw [h] at hb
                  have := hc7.size
                  simp at hb; omega
              have ho10 := HO9.out.keep hc10
              have hsep : Hid (∀ b, v10.ownBlock = some b → v9.ownBlock ≠ some b) := Lib.hid (fun b hb e => by
                have h1 := hv10 b hb
                have h2 := (HGE9.out b e).2
                omega)
              have hx10 : Ints w10 v10 (left.take j ++ left.drop (j + 1)) := by
                have := hown10.ints
                rw [List.nil_append] at this
                exact this
              have hc11 := HC9.out.seq hc10
              have hln : Hid (m + 1 + (left.take j ++ left.drop (j + 1)).length = i) := Lib.hid (by rw [List.length_append, List.length_take, List.length_drop]; have := hsum.out; omega)
              have hlm : Hid ((left.take j ++ left.drop (j + 1)).length < left.length) := Lib.hid (by rw [List.length_append, List.length_take, List.length_drop]; omega)
              obtain ⟨L2, hL2⟩ : ∃ L2, left.take j ++ left.drop (j + 1) = L2 := ⟨_, rfl⟩
              rw [hL2] at hx10 hln hlm HPM
              obtain ⟨G, cg, rfl⟩ := hx10.shape
              clear hown7 hg7 hat7 hown10 hg10 hat10 hc10a hc7 hv7 hv10 HC9 HO9 hc10 hwr htn hjj hL2
              go_wp2_with fail
              go_roundw
              case rel => exact ⟨L2, out ++ [k], m + 1, by go_num, HPM, hln, ho10, hx10, hsep, hc11⟩
              case measure => have := hlm.out; simp [sliceL]; omega
        · have hnil : left = [] := List.eq_nil_of_length_eq_zero (by omega)
          subst hnil
          have hd : decide ((0 : Int) < ((0 : Nat) : Int)) = false := by decide
          go_wp2_with fail
          go_ret
          exact ⟨_, out, rfl, ho.ints, RowOK.of_perm (by have := hpm.out; rwa [List.append_nil] at this), hc⟩
end Go.Proofs.YtlhfpnkfapghoaaDoor
end

section
/- Regions that draw their order, walked with what is over by now in sight: what an operation's value is, and what holds of the world, may lean on which operations are over. No condition. -/
set_option linter.unusedVariables false
set_option linter.unusedSimpArgs false
namespace Go.Proofs.YtlhfpnkfapghoaaDoor
open Go.RowKit

section
variable {P : Program} {Q : Exit → Act → World → Prop}
/-- i is over, too. -/
def mark (L : Nat → Bool) (i : Nat) : Nat → Bool := fun j => decide (j = i) || L j
theorem mark_same (L : Nat → Bool) (i : Nat) : mark L i i = true := by simp [mark]
theorem mark_ne {L : Nat → Bool} {i j : Nat} (h : j ≠ i) : mark L i j = L j := by simp [mark, h]
/-- What is over waits for nothing. -/
def ledB (l : List Oper) (L : Nat → Bool) : Prop := ∀ j p, l[j]? = some p → L j = true → ∀ e ∈ p.after, Region.binds .any e = true → L e.on = true
/-- How far the region has come. -/
structure LInv (l : List Oper) (R : (Nat → Bool) → Nat → Value → World → Prop) (I : (Nat → Bool) → World → Prop) (a0 : Act) (listed : Array Bool) (a : Act) (w : World) : Prop where
  lsz : listed.size = l.length
  glob : I (fun j => listed.getD j false) w
  led : ledB l (fun j => listed.getD j false)
  defs : a.defers = a0.defers
  size : a.tmps.size = a0.tmps.size
  old : ∀ s, (∀ i o, l[i]? = some o → listed.getD i false = true → o.dst ≠ some s) → a.tmps[s]? = a0.tmps[s]?
  val : ∀ i o s, l[i]? = some o → listed.getD i false = true → o.dst = some s → ∃ v, a.tmps[s]? = some v ∧ R (fun j => listed.getD j false) i v w
/-- What an operation may lean on. -/
structure LKnow (l : List Oper) (R : (Nat → Bool) → Nat → Value → World → Prop) (L : Nat → Bool) (a0 : Act) (i : Nat) (o : Oper) (a : Act) (w : World) : Prop where
  new : L i = false
  led : ledB l L
  wait : ∀ e ∈ o.after, Region.binds .any e = true → L e.on = true
  old : ∀ s, (∀ p ∈ l, p.dst ≠ some s) → a.tmps[s]? = a0.tmps[s]?
  val : ∀ e ∈ o.after, Region.binds .any e = true → ∀ p s, l[e.on]? = some p → p.dst = some s → ∃ v, a.tmps[s]? = some v ∧ R L e.on v w
theorem wp_region_led {id : Nat} {a0 : Act} {w0 : World} {l : List Oper} (R : (Nat → Bool) → Nat → Value → World → Prop) (I : (Nat → Bool) → World → Prop) (hm : P.follows .mixedOrders = true) (hd : dstOnce l = true) (hz : dstIn a0.tmps.size l = true) (hb : backB 0 l = true)
    (start : I (fun _ => false) w0.drew)
    (step : ∀ i o, l[i]? = some o → ∀ L a w, I L w → LKnow l R L a0 i o a w → ∀ K : Act → World → Prop, (∀ v w', I (mark L i) w' → R (mark L i) i v w' → (∀ j u, j ≠ i → L j = true → R L j u w → R (mark L i) j u w') → K (a.put o.dst v) w') → wpList P l.toArray (Exit.then K Q) [o] a w)
    (done : ∀ L vals w', (∀ i, i < l.length → L i = true) → I L w' → (∀ i o s, l[i]? = some o → o.dst = some s → R L i (vals i) w') → Q .normal (putAll vals 0 l a0) w') : (Code.region id l.toArray true).wp P Q a0 w0 := by
  refine wp_region_any hm ?_
  have hfin : ∀ listed a w, LInv l R I a0 listed a w → (∀ i, i < l.length → listed.getD i false = true) → Q .normal a w := fun listed a w inv hall => by
    have hval : ∀ i : Nat, ∃ v : Value, ∀ (o : Oper) (s : Tmp), l[i]? = some o → o.dst = some s → a.tmps[s]? = some v ∧ R (fun j => listed.getD j false) i v w := fun i => by
      cases hi : l[i]? with
      | none => exact ⟨undef, fun o s h => by cases h⟩
      | some o =>
        cases ho : o.dst with
        | none => exact ⟨undef, fun p s h h2 => by cases h; rw [ho] at h2; cases h2⟩
        | some s =>
          obtain ⟨v, h1, h2⟩ := inv.val i o s hi (hall i (List.getElem?_eq_some_iff.1 hi).1) ho
          exact ⟨v, fun p s' h h3 => by cases h; rw [ho] at h3; cases h3; exact ⟨h1, h2⟩⟩
    obtain ⟨vals, hvals⟩ : ∃ vals : Nat → Value, ∀ (i : Nat) (o : Oper) (s : Tmp), l[i]? = some o → o.dst = some s → a.tmps[s]? = some (vals i) ∧ R (fun j => listed.getD j false) i (vals i) w := ⟨fun i => Classical.choose (hval i), fun i => Classical.choose_spec (hval i)⟩
    have e : a = putAll vals 0 l a0 := by
      have ht : a.tmps = (putAll vals 0 l a0).tmps := by
        apply Array.ext_getElem?
        intro s
        by_cases hs : ∃ (i : Nat) (o : Oper), l[i]? = some o ∧ o.dst = some s
        · obtain ⟨i, o, h1, h2⟩ := hs
          have h3 : s < a0.tmps.size := by
            unfold dstIn at hz
            rw [List.all_eq_true] at hz
            have := hz o (List.mem_of_getElem? h1)
            rw [h2] at this
            simpa using this
          rw [(hvals i o s h1 h2).1, putAll_at vals l 0 a0 s i o hd h1 h2 h3, Nat.zero_add]
        · have hno : ∀ o : Oper, o ∈ l → o.dst ≠ some s := fun o ho e => hs (by
            obtain ⟨i, hi⟩ := List.getElem?_of_mem ho
            exact ⟨i, o, hi, e⟩)
          rw [putAll_other vals l 0 a0 s hno]
          exact inv.old s (fun i o hi _ => hno o (List.mem_of_getElem? hi))
      have hdf : a.defers = (putAll vals 0 l a0).defers := by rw [putAll_defers]; exact inv.defs
      obtain ⟨t1, d1⟩ := a
      cases hp : putAll vals 0 l a0 with
      | mk t2 d2 =>
        rw [hp] at ht hdf
        simp only at ht hdf
        rw [ht, hdf]
    rw [e]
    exact done _ vals w hall inv.glob (fun i o s h1 h2 => (hvals i o s h1 h2).2)
  have hready : ∀ listed a w, LInv l R I a0 listed a w → Region.ready .any l.toArray listed = [] → ∀ i, i < l.length → listed.getD i false = true := fun listed a w inv hr => by
    intro i
    induction i using Nat.strongRecOn with
    | ind i ih =>
      intro hi
      cases hl : listed.getD i false with
      | true => rfl
      | false =>
        exfalso
        have hi2 : l[i]? = some l[i] := List.getElem?_eq_getElem hi
        have : i ∈ Region.ready .any l.toArray listed := mem_ready.2 ⟨by
          rw [Array.getD_eq_getD_getElem?, Array.getElem?_eq_getElem (by rw [inv.lsz]; exact hi)] at hl ⊢
          exact hl, l[i], by simp, fun e he _ => ih e.on (by have := back_of hb hi2 e he; omega) (by have := back_of hb hi2 e he; omega)⟩
        rw [hr] at this
        cases this
  have main : ∀ fuel listed a w, LInv l R I a0 listed a w → listed.count false ≤ fuel → wpAny P .any l.toArray Q fuel listed a w := by
    intro fuel
    induction fuel with
    | zero =>
      intro listed a w inv hc
      have hall : ∀ i, i < l.length → listed.getD i false = true := fun i hi => by
        cases hl : listed.getD i false with
        | true => rfl
        | false =>
          exfalso
          have h1 : false ∈ listed := by
            rw [Array.getD_eq_getD_getElem?, Array.getElem?_eq_getElem (by rw [inv.lsz]; exact hi), Option.getD_some] at hl
            rw [← hl]; exact Array.getElem_mem _
          have := Array.count_pos_iff.2 h1
          omega
      refine ⟨?_, hfin listed a w inv hall⟩
      apply List.eq_nil_iff_forall_not_mem.2
      intro j hj
      obtain ⟨h1, o, h2, _⟩ := mem_ready.1 hj
      have hj2 : j < l.length := by
        have := (Array.getElem?_eq_some_iff.1 h2).1
        simpa using this
      have := hall j hj2
      rw [Array.getD_eq_getD_getElem?, Array.getElem?_eq_getElem (by rw [inv.lsz]; exact hj2)] at h1 this
      simp at h1 this
      rw [h1] at this
      cases this
    | succ fuel ih =>
      intro listed a w inv hc
      refine ⟨fun hr => hfin listed a w inv (hready listed a w inv hr), fun i hi => ?_⟩
      obtain ⟨h1, o, h2, h3⟩ := mem_ready.1 hi
      have h2' : l[i]? = some o := by simpa using h2
      have hil : i < l.length := (List.getElem?_eq_some_iff.1 h2').1
      have hlt : i < listed.size := by rw [inv.lsz]; exact hil
      have hcur : listed[i] = false := by
        rw [Array.getD_eq_getD_getElem?, Array.getElem?_eq_getElem hlt] at h1
        exact h1
      have emark : (fun j => (listed.setIfInBounds i true).getD j false) = mark (fun j => listed.getD j false) i := by
        funext j
        by_cases e : j = i
        · subst e
          rw [mark_same]
          simp [hlt]
        · rw [mark_ne e, getD_set_ne false (Ne.symm e)]
      refine wpOp_of_list h2 (step i o h2' (fun j => listed.getD j false) a w inv.glob ⟨by rw [Array.getD_eq_getD_getElem?, Array.getElem?_eq_getElem hlt]; exact hcur, inv.led, h3, fun s hs => inv.old s (fun j p hj _ => hs p (List.mem_of_getElem? hj)), fun e he hbd p s hp hs => inv.val e.on p s hp (h3 e he hbd) hs⟩ _ (fun v w' hgl hv hcw => ?_))
      have gset : ∀ j, (listed.setIfInBounds i true).getD j false = true → j = i ∨ listed.getD j false = true := fun j hj => by
        by_cases e : i = j
        · exact .inl e.symm
        · rw [getD_set_ne false e] at hj; exact .inr hj
      have hsz : ∀ s, o.dst = some s → s < a.tmps.size := fun s hs => by
        rw [inv.size]
        unfold dstIn at hz
        rw [List.all_eq_true] at hz
        have := hz o (List.mem_of_getElem? h2')
        rw [hs] at this
        simpa using this
      refine ih _ _ _ ⟨by simpa using inv.lsz, by rw [emark]; exact hgl, ?_, ?_, by rw [put_size]; exact inv.size, fun s hs => ?_, fun j p s hj hlj hp => ?_⟩ ?_
      · intro j p hj hlj e he hbd
        by_cases hji : j = i
        · subst hji
          rw [h2'] at hj
          cases hj
          exact getD_set_true (h3 e he hbd)
        · exact getD_set_true (inv.led j p hj ((gset j hlj).resolve_left hji) e he hbd)
      · have : (a.put o.dst v).defers = a.defers := by unfold Act.put; split <;> rfl
        rw [this]; exact inv.defs
      · rw [put_other (hs i o h2' (by simp [hlt]))]
        refine inv.old s (fun j p hj hlj => hs j p hj (getD_set_true hlj))
      · rw [emark]
        by_cases e : j = i
        · subst e
          rw [h2'] at hj
          cases hj
          rw [hp]
          exact ⟨v, put_same (hsz s hp), hv⟩
        · have hne : o.dst ≠ some s := fun e2 => e (dst_one hd hj h2' hp e2)
          rw [put_other hne]
          obtain ⟨u, hu1, hu2⟩ := inv.val j p s hj ((gset j hlj).resolve_left e) hp
          exact ⟨u, hu1, hcw j u e ((gset j hlj).resolve_left e) hu2⟩
      · have hcs := Array.count_set (a := true) (b := false) (xs := listed) (i := i) hlt
        rw [show listed.setIfInBounds i true = listed.set i true hlt from by simp [Array.setIfInBounds, hlt]]
        rw [hcs, hcur]
        simp
        omega
  have inv0 : LInv l R I a0 (Array.replicate l.toArray.size false) a0 w0.drew := by
    have hno : ∀ i, (Array.replicate l.toArray.size false).getD i false = false := fun i => by
      rw [Array.getD_eq_getD_getElem?]
      by_cases h : i < l.toArray.size
      · simp only [Array.getElem?_replicate]; split <;> rfl
      · simp only [Array.getElem?_replicate]; split <;> rfl
    exact ⟨by simp, (by rw [show (fun j => (Array.replicate l.toArray.size false).getD j false) = (fun _ => false) from funext hno]; exact start), fun j p _ h => (by rw [show (fun j => (Array.replicate l.toArray.size false).getD j false) j = false from hno j] at h; cases h), rfl, rfl, fun s _ => rfl, fun i o s _ h => by rw [hno] at h; cases h⟩
  refine main l.toArray.size _ _ _ inv0 ?_
  simp [Array.count_replicate]
end
end Go.Proofs.YtlhfpnkfapghoaaDoor
end

section
/- Regions that draw their order, walked with what is over by now in sight: of the others only the values that they have are kept. No condition. -/
set_option linter.unusedVariables false
set_option linter.unusedSimpArgs false
namespace Go.Proofs.YtlhfpnkfapghoaaDoor
open Go.RowKit

theorem yld_one {P : Program} {ops : Array Oper} {o : Oper} {a : Act} {w w' : World} {v : Value} {K : Act → World → Prop} {Q : Exit → Act → World → Prop} (hw : Region.wanted o (yielded ops a.tmps) = true) (hrun : (execOp a.eval o).run P w = .ok (.value v) w') (h : K (a.put o.dst v) w') : wpList P ops (Exit.then K Q) [o] a w :=
  wpList_step fun K' hK' => by
    rw [if_pos hw]
    unfold Oper.wp
    rw [hrun]
    exact hK' _ _ h
theorem yld_call {P : Program} {ops : Array Oper} {o : Oper} {a : Act} {w : World} {f : FuncId} {vs : Array Value} {K : Act → World → Prop} {Q : Exit → Act → World → Prop} (hw : Region.wanted o (yielded ops a.tmps) = true) (hrun : (execOp a.eval o).run P w = .ok (.enter f vs) w)
    (h : Calls P f vs w fun e w' => ∃ v, e = .returned v ∧ K (a.put o.dst v) w') : wpList P ops (Exit.then K Q) [o] a w :=
  wpList_step fun K' hK' => by
    rw [if_pos hw]
    unfold Oper.wp
    rw [hrun]
    refine Calls.mono h (fun e w' he => ?_)
    obtain ⟨v, rfl, hk⟩ := he
    exact hK' _ _ hk
theorem yld_slot {a : Act} {s : Nat} {v : Value} (h : a.tmps[s]? = some v) : a.eval (.tmp s) = v := by
  unfold Act.eval
  simp [h]
/-- What binds an operation stands ahead of it. -/
def backA : Nat → List Oper → Bool
  | _, [] => true
  | k, o :: l => o.after.all (fun e => !Region.binds .any e || decide (e.on < k)) && backA (k + 1) l
theorem backA_of : ∀ {l : List Oper} {k : Nat}, backA k l = true → ∀ {i : Nat} {o : Oper}, l[i]? = some o → ∀ e ∈ o.after, Region.binds .any e = true → e.on < k + i
  | [], _, _, _, _, hi, _, _, _ => by simp at hi
  | p :: l, k, h, i, o, hi, e, he, hbd => by
    simp only [backA, Bool.and_eq_true, Array.all_eq_true_iff_forall_mem, Bool.or_eq_true, decide_eq_true_eq] at h
    cases i with
    | zero =>
      simp at hi
      subst hi
      rcases h.1 e he with h1 | h1
      · rw [hbd] at h1; cases h1
      · omega
    | succ i =>
      simp at hi
      have := backA_of h.2 hi e he hbd
      omega
section
variable {P : Program} {Q : Exit → Act → World → Prop}
theorem wp_region_led2 {id : Nat} {a0 : Act} {w0 : World} {l : List Oper} (R : (Nat → Bool) → Nat → Value → World → Prop) (I : (Nat → Bool) → World → Prop) (hm : P.follows .mixedOrders = true) (hd : dstOnce l = true) (hz : dstIn a0.tmps.size l = true) (hb : backA 0 l = true)
    (start : I (fun _ => false) w0.drew)
    (step : ∀ i o, l[i]? = some o → ∀ L a w, I L w → LKnow l R L a0 i o a w → ∀ K : Act → World → Prop, (∀ v w', I (mark L i) w' → R (mark L i) i v w' → (∀ j u p s, j ≠ i → L j = true → l[j]? = some p → p.dst = some s → a.tmps[s]? = some u → R L j u w → R (mark L i) j u w') → K (a.put o.dst v) w') → wpList P l.toArray (Exit.then K Q) [o] a w)
    (done : ∀ L vals w', (∀ i, i < l.length → L i = true) → I L w' → (∀ i o s, l[i]? = some o → o.dst = some s → R L i (vals i) w') → Q .normal (putAll vals 0 l a0) w') : (Code.region id l.toArray true).wp P Q a0 w0 := by
  refine wp_region_any hm ?_
  have hfin : ∀ listed a w, LInv l R I a0 listed a w → (∀ i, i < l.length → listed.getD i false = true) → Q .normal a w := fun listed a w inv hall => by
    have hval : ∀ i : Nat, ∃ v : Value, ∀ (o : Oper) (s : Tmp), l[i]? = some o → o.dst = some s → a.tmps[s]? = some v ∧ R (fun j => listed.getD j false) i v w := fun i => by
      cases hi : l[i]? with
      | none => exact ⟨undef, fun o s h => by cases h⟩
      | some o =>
        cases ho : o.dst with
        | none => exact ⟨undef, fun p s h h2 => by cases h; rw [ho] at h2; cases h2⟩
        | some s =>
          obtain ⟨v, h1, h2⟩ := inv.val i o s hi (hall i (List.getElem?_eq_some_iff.1 hi).1) ho
          exact ⟨v, fun p s' h h3 => by cases h; rw [ho] at h3; cases h3; exact ⟨h1, h2⟩⟩
    obtain ⟨vals, hvals⟩ : ∃ vals : Nat → Value, ∀ (i : Nat) (o : Oper) (s : Tmp), l[i]? = some o → o.dst = some s → a.tmps[s]? = some (vals i) ∧ R (fun j => listed.getD j false) i (vals i) w := ⟨fun i => Classical.choose (hval i), fun i => Classical.choose_spec (hval i)⟩
    have e : a = putAll vals 0 l a0 := by
      have ht : a.tmps = (putAll vals 0 l a0).tmps := by
        apply Array.ext_getElem?
        intro s
        by_cases hs : ∃ (i : Nat) (o : Oper), l[i]? = some o ∧ o.dst = some s
        · obtain ⟨i, o, h1, h2⟩ := hs
          have h3 : s < a0.tmps.size := by
            unfold dstIn at hz
            rw [List.all_eq_true] at hz
            have := hz o (List.mem_of_getElem? h1)
            rw [h2] at this
            simpa using this
          rw [(hvals i o s h1 h2).1, putAll_at vals l 0 a0 s i o hd h1 h2 h3, Nat.zero_add]
        · have hno : ∀ o : Oper, o ∈ l → o.dst ≠ some s := fun o ho e => hs (by
            obtain ⟨i, hi⟩ := List.getElem?_of_mem ho
            exact ⟨i, o, hi, e⟩)
          rw [putAll_other vals l 0 a0 s hno]
          exact inv.old s (fun i o hi _ => hno o (List.mem_of_getElem? hi))
      have hdf : a.defers = (putAll vals 0 l a0).defers := by rw [putAll_defers]; exact inv.defs
      obtain ⟨t1, d1⟩ := a
      cases hp : putAll vals 0 l a0 with
      | mk t2 d2 =>
        rw [hp] at ht hdf
        simp only at ht hdf
        rw [ht, hdf]
    rw [e]
    exact done _ vals w hall inv.glob (fun i o s h1 h2 => (hvals i o s h1 h2).2)
  have hready : ∀ listed a w, LInv l R I a0 listed a w → Region.ready .any l.toArray listed = [] → ∀ i, i < l.length → listed.getD i false = true := fun listed a w inv hr => by
    intro i
    induction i using Nat.strongRecOn with
    | ind i ih =>
      intro hi
      cases hl : listed.getD i false with
      | true => rfl
      | false =>
        exfalso
        have hi2 : l[i]? = some l[i] := List.getElem?_eq_getElem hi
        have : i ∈ Region.ready .any l.toArray listed := mem_ready.2 ⟨by
          rw [Array.getD_eq_getD_getElem?, Array.getElem?_eq_getElem (by rw [inv.lsz]; exact hi)] at hl ⊢
          exact hl, l[i], by simp, fun e he hbd => ih e.on (by have := backA_of hb hi2 e he hbd; omega) (by have := backA_of hb hi2 e he hbd; omega)⟩
        rw [hr] at this
        cases this
  have main : ∀ fuel listed a w, LInv l R I a0 listed a w → listed.count false ≤ fuel → wpAny P .any l.toArray Q fuel listed a w := by
    intro fuel
    induction fuel with
    | zero =>
      intro listed a w inv hc
      have hall : ∀ i, i < l.length → listed.getD i false = true := fun i hi => by
        cases hl : listed.getD i false with
        | true => rfl
        | false =>
          exfalso
          have h1 : false ∈ listed := by
            rw [Array.getD_eq_getD_getElem?, Array.getElem?_eq_getElem (by rw [inv.lsz]; exact hi), Option.getD_some] at hl
            rw [← hl]; exact Array.getElem_mem _
          have := Array.count_pos_iff.2 h1
          omega
      refine ⟨?_, hfin listed a w inv hall⟩
      apply List.eq_nil_iff_forall_not_mem.2
      intro j hj
      obtain ⟨h1, o, h2, _⟩ := mem_ready.1 hj
      have hj2 : j < l.length := by
        have := (Array.getElem?_eq_some_iff.1 h2).1
        simpa using this
      have := hall j hj2
      rw [Array.getD_eq_getD_getElem?, Array.getElem?_eq_getElem (by rw [inv.lsz]; exact hj2)] at h1 this
      simp at h1 this
      rw [h1] at this
      cases this
    | succ fuel ih =>
      intro listed a w inv hc
      refine ⟨fun hr => hfin listed a w inv (hready listed a w inv hr), fun i hi => ?_⟩
      obtain ⟨h1, o, h2, h3⟩ := mem_ready.1 hi
      have h2' : l[i]? = some o := by simpa using h2
      have hil : i < l.length := (List.getElem?_eq_some_iff.1 h2').1
      have hlt : i < listed.size := by rw [inv.lsz]; exact hil
      have hcur : listed[i] = false := by
        rw [Array.getD_eq_getD_getElem?, Array.getElem?_eq_getElem hlt] at h1
        exact h1
      have emark : (fun j => (listed.setIfInBounds i true).getD j false) = mark (fun j => listed.getD j false) i := by
        funext j
        by_cases e : j = i
        · subst e
          rw [mark_same]
          simp [hlt]
        · rw [mark_ne e, getD_set_ne false (Ne.symm e)]
      refine wpOp_of_list h2 (step i o h2' (fun j => listed.getD j false) a w inv.glob ⟨by rw [Array.getD_eq_getD_getElem?, Array.getElem?_eq_getElem hlt]; exact hcur, inv.led, h3, fun s hs => inv.old s (fun j p hj _ => hs p (List.mem_of_getElem? hj)), fun e he hbd p s hp hs => inv.val e.on p s hp (h3 e he hbd) hs⟩ _ (fun v w' hgl hv hcw => ?_))
      have gset : ∀ j, (listed.setIfInBounds i true).getD j false = true → j = i ∨ listed.getD j false = true := fun j hj => by
        by_cases e : i = j
        · exact .inl e.symm
        · rw [getD_set_ne false e] at hj; exact .inr hj
      have hsz : ∀ s, o.dst = some s → s < a.tmps.size := fun s hs => by
        rw [inv.size]
        unfold dstIn at hz
        rw [List.all_eq_true] at hz
        have := hz o (List.mem_of_getElem? h2')
        rw [hs] at this
        simpa using this
      refine ih _ _ _ ⟨by simpa using inv.lsz, by rw [emark]; exact hgl, ?_, ?_, by rw [put_size]; exact inv.size, fun s hs => ?_, fun j p s hj hlj hp => ?_⟩ ?_
      · intro j p hj hlj e he hbd
        by_cases hji : j = i
        · subst hji
          rw [h2'] at hj
          cases hj
          exact getD_set_true (h3 e he hbd)
        · exact getD_set_true (inv.led j p hj ((gset j hlj).resolve_left hji) e he hbd)
      · have : (a.put o.dst v).defers = a.defers := by unfold Act.put; split <;> rfl
        rw [this]; exact inv.defs
      · rw [put_other (hs i o h2' (by simp [hlt]))]
        refine inv.old s (fun j p hj hlj => hs j p hj (getD_set_true hlj))
      · rw [emark]
        by_cases e : j = i
        · subst e
          rw [h2'] at hj
          cases hj
          rw [hp]
          exact ⟨v, put_same (hsz s hp), hv⟩
        · have hne : o.dst ≠ some s := fun e2 => e (dst_one hd hj h2' hp e2)
          rw [put_other hne]
          obtain ⟨u, hu1, hu2⟩ := inv.val j p s hj ((gset j hlj).resolve_left e) hp
          exact ⟨u, hu1, hcw j u p s e ((gset j hlj).resolve_left e) hj hp hu1 hu2⟩
      · have hcs := Array.count_set (a := true) (b := false) (xs := listed) (i := i) hlt
        rw [show listed.setIfInBounds i true = listed.set i true hlt from by simp [Array.setIfInBounds, hlt]]
        rw [hcs, hcur]
        simp
        omega
  have inv0 : LInv l R I a0 (Array.replicate l.toArray.size false) a0 w0.drew := by
    have hno : ∀ i, (Array.replicate l.toArray.size false).getD i false = false := fun i => by
      rw [Array.getD_eq_getD_getElem?]
      by_cases h : i < l.toArray.size
      · simp only [Array.getElem?_replicate]; split <;> rfl
      · simp only [Array.getElem?_replicate]; split <;> rfl
    exact ⟨by simp, (by rw [show (fun j => (Array.replicate l.toArray.size false).getD j false) = (fun _ => false) from funext hno]; exact start), fun j p _ h => (by rw [show (fun j => (Array.replicate l.toArray.size false).getD j false) j = false from hno j] at h; cases h), rfl, rfl, fun s _ => rfl, fun i o s _ h => by rw [hno] at h; cases h⟩
  refine main l.toArray.size _ _ _ inv0 ?_
  simp [Array.count_replicate]
end
end Go.Proofs.YtlhfpnkfapghoaaDoor
end
