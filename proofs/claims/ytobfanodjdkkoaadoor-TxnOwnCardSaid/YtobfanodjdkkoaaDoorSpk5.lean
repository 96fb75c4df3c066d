/- The transactions' law: three operations of a key (burgagelaw05.speaks). No condition but each theorem's own. -/
import Derived.Test.YtobfanodjdkkoaaDoorOpRW
import Derived.Test.YtobfanodjdkkoaaDoorText
import Derived.Test.YtobfanodjdkkoaaDoorTxnRight
import Derived.Test.YtobfanodjdkkoaaDoorRef05d
import Derived.Test.YtobfanodjdkkoaaDoorTail
set_option linter.unusedVariables false
set_option linter.unusedSimpArgs false
namespace Go.Proofs.YtobfanodjdkkoaaDoor
open Go.RowKit Go.Proofs

theorem OwnO.lower {w : World} {base b2 e : Nat} {v : Value} {xs : List Opn} (h : OwnO w base e v xs) (hb : b2 ≤ base) : OwnO w b2 e v xs := h.base hb
/-- What is read of others, and what is written for them: where the keys are below 64. -/
theorem reads64 (w : World) (v : Value) (xs : List Opn) (p q r : Int) (hv : Opl w v xs) (hk : KeysOk xs) (h64 : Keys64 xs) (hn : xs.length ≤ 1000000) (base : Nat) (hb : base ≤ w.heap.size) :
    Calls Tryd.prog 8 #[.agg #[.int .i64 p, .int .i64 q, .int .i64 r, v]] w fun e w' => ∃ u, e = .returned u ∧ OwnO w' base 33 u (readsR xs 64) ∧ Ch nob w w' := by
  obtain ⟨Z, hZ⟩ : ∃ Z, readsR xs 64 = Z := ⟨_, rfl⟩
  rw [hZ]
  refine (reads w v xs p q r hv hk hn).mono ?_
  rintro e w' ⟨u, ys, rfl, ho, hs, hc⟩
  have := (reads_is h64 hs).trans hZ
  subst this
  exact ⟨u, rfl, ho.lower hb, hc⟩
theorem writes64 (w : World) (v : Value) (xs : List Opn) (p q r : Int) (hv : Opl w v xs) (hk : KeysOk xs) (h64 : Keys64 xs) (hn : xs.length ≤ 1000000) (base : Nat) (hb : base ≤ w.heap.size) :
    Calls Tryd.prog 9 #[.agg #[.int .i64 p, .int .i64 q, .int .i64 r, v]] w fun e w' => ∃ u, e = .returned u ∧ OwnO w' base 33 u (writesR xs 64) ∧ Ch nob w w' := by
  obtain ⟨Z, hZ⟩ : ∃ Z, writesR xs 64 = Z := ⟨_, rfl⟩
  rw [hZ]
  refine (writes w v xs p q r hv hk hn).mono ?_
  rintro e w' ⟨u, ys, rfl, ho, hs, hm, hc⟩
  have := (writes_is h64 hs hm).trans hZ
  subst this
  exact ⟨u, rfl, ho.lower hb, hc⟩
/-- What the operations of 'r, w := txn.Reads(t), txn.Writes(t)' yield. -/
def rw5 (base : Nat) (xs : List Opn) (t : Value) : Nat → Value → World → Prop
  | 0 => fun v _ => v = t
  | 1 => fun v w => OwnO w base 33 v (readsR xs 64)
  | 2 => fun v _ => v = t
  | 3 => fun v w => OwnO w base 33 v (writesR xs 64)
  | 4 => fun v w => OwnO w base 33 v (readsR xs 64)
  | _ => fun v w => OwnO w base 33 v (writesR xs 64)
theorem rw5_stable (base : Nat) (xs : List Opn) (t : Value) (i : Nat) (v : Value) (w w' : World) (hr : rw5 base xs t i v w) (hc : Ch nob w w') : rw5 base xs t i v w' := by
  match i with
  | 0 | 2 => exact hr
  | 1 => exact OwnO.keep hr hc
  | 3 => exact OwnO.keep hr hc
  | 4 => exact OwnO.keep hr hc
  | i + 5 => exact OwnO.keep hr hc
def sp5 : List Opn := [⟨false, 3, 0⟩, ⟨true, 3, 5⟩, ⟨false, 3, 5⟩]
theorem sp5_keys : KeysOk sp5 ∧ Keys64 sp5 := by
  constructor
  · intro i hi
    obtain rfl | rfl | rfl : i = 0 ∨ i = 1 ∨ i = 2 := by have : i < 3 := hi; omega
    · decide
    · decide
    · decide
  · intro i hi
    obtain rfl | rfl | rfl : i = 0 ∨ i = 1 ∨ i = 2 := by have : i < 3 := hi; omega
    · decide
    · decide
    · decide
theorem sp5_facts : readsR sp5 64 = [⟨false, 3, 0⟩] ∧ writesR sp5 64 = [⟨true, 3, 5⟩] ∧ steadyB sp5 = true ∧ txnOk 0 1 2 sp5 = true := by decide +kernel
theorem sp5_text : textB ⟨0, 1, 2, sp5⟩ = [116, 120, 110, 32, 48, 32, 49, 32, 50, 10, 114, 32, 51, 32, 48, 10, 119, 32, 51, 32, 53, 10, 114, 32, 51, 32, 53, 10] := by decide +kernel
theorem fit_small (w : World) (i : Nat) (hi : i < 100) : ItoaFit w (i : Int) := ⟨itoa_small w i hi, Lib.itoa_length_le _ (by omega) (by omega)⟩
theorem opl_three {w : World} {g c : Nat} {x y z : Opn} {T : TypeId} (hb : Blk w g #[.bool x.wr, .int .i64 x.key, .int .i64 x.val, .bool y.wr, .int .i64 y.key, .int .i64 y.val, .bool z.wr, .int .i64 z.key, .int .i64 z.val] T) (hc : 3 ≤ c) : Opl w (.slice (some ⟨g, 0, none⟩) 3 c) [x, y, z] := by
  refine ⟨_, _, rfl, ⟨hc, by simp⟩, fun _ => ⟨_, rfl, fun j hj => ?_⟩⟩
  obtain rfl | rfl | rfl : j = 0 ∨ j = 1 ∨ j = 2 := by simp at hj; omega
  · exact ⟨hb.cell (i := 0) rfl, hb.cell (i := 1) rfl, hb.cell (i := 2) rfl⟩
  · exact ⟨hb.cell (i := 3) rfl, hb.cell (i := 4) rfl, hb.cell (i := 5) rfl⟩
  · exact ⟨hb.cell (i := 6) rfl, hb.cell (i := 7) rfl, hb.cell (i := 8) rfl⟩
set_option maxRecDepth 100000 in
set_option maxHeartbeats 4000000 in
theorem speaks05 (w : World) : Calls Tryd.prog 6 #[] w fun e w' => e = .returned (.bool true) ∧ Ch nob w w' := by
  go_enter Tryd.func6, Tryd.ntmps6
  go_wp2_with fail
  refine (op_read 3 0 w).mono ?_
  rintro e w1 ⟨rfl, hc1⟩
  go_wp2_with fail
  refine (op_write 3 5 _).mono ?_
  rintro e w2 ⟨rfl, hc2⟩
  go_wp2_with fail
  refine (op_read 3 5 _).mono ?_
  rintro e w3 ⟨rfl, hc3⟩
  have hc4 := (hc1.seq hc2).seq hc3
  clear hc1 hc2 hc3
  go_wp2_with fail
  have hbO := (Blk.new w3 #[.bool false, .int .i64 3, .int .i64 0, .bool true, .int .i64 3, .int .i64 5, .bool false, .int .i64 3, .int .i64 5] 33).alloc (.cells #[.int .i64 0, .int .i64 1, .int .i64 2, .slice (some ⟨w3.heap.size, 0, none⟩) 3 3] 26)
  have hbT := Blk.new (w3.alloc (.cells #[.bool false, .int .i64 3, .int .i64 0, .bool true, .int .i64 3, .int .i64 5, .bool false, .int .i64 3, .int .i64 5] 33)) #[.int .i64 0, .int .i64 1, .int .i64 2, .slice (some ⟨w3.heap.size, 0, none⟩) 3 3] 26
  have hc5 := (hc4.alloc (.cells #[.bool false, .int .i64 3, .int .i64 0, .bool true, .int .i64 3, .int .i64 5, .bool false, .int .i64 3, .int .i64 5] 33)).alloc (.cells #[.int .i64 0, .int .i64 1, .int .i64 2, .slice (some ⟨w3.heap.size, 0, none⟩) 3 3] 26)
  obtain ⟨w5, hw5⟩ : ∃ u, (w3.alloc (.cells #[.bool false, .int .i64 3, .int .i64 0, .bool true, .int .i64 3, .int .i64 5, .bool false, .int .i64 3, .int .i64 5] 33)).alloc (.cells #[.int .i64 0, .int .i64 1, .int .i64 2, .slice (some ⟨w3.heap.size, 0, none⟩) 3 3] 26) = u := ⟨_, rfl⟩
  have hbT2 : Blk w5 (w3.heap.size + 1) #[.int .i64 0, .int .i64 1, .int .i64 2, .slice (some ⟨w3.heap.size, 0, none⟩) 3 3] 26 := by rw [← hw5]; simpa using hbT
  rw [hw5] at hbO hc5 ⊢
  obtain ⟨g1, hg1⟩ : ∃ g, w3.heap.size = g := ⟨_, rfl⟩
  rw [hg1] at hbO hbT2 ⊢
  obtain ⟨g2, hg2⟩ : ∃ g, g1 + 1 = g := ⟨_, rfl⟩
  rw [hg2] at hbT2 ⊢
  have HO := Lib.hid (show Opl w5 (.slice (some ⟨g1, 0, none⟩) 3 3) sp5 from opl_three (x := ⟨false, 3, 0⟩) (y := ⟨true, 3, 5⟩) (z := ⟨false, 3, 5⟩) hbO (Nat.le_refl _))
  have HT := Lib.hid hbT2
  clear hbT hw5 hg1 hg2 hc4 hbO hbT2
  have HR := Lib.hid (fun (u : World) (hc : Ch nob w5 u) => reads64 u _ sp5 0 1 2 (HO.out.keep hc) sp5_keys.1 sp5_keys.2 (by decide) w5.heap.size hc.size)
  have HW := Lib.hid (fun (u : World) (hc : Ch nob w5 u) => writes64 u _ sp5 0 1 2 (HO.out.keep hc) sp5_keys.1 sp5_keys.2 (by decide) w5.heap.size hc.size)
  refine wp_region_yield (rw5 w5.heap.size sp5 (.agg #[.int .i64 0, .int .i64 1, .int .i64 2, .slice (some ⟨g1, 0, none⟩) 3 3])) (by kernel_rfl) (by kernel_rfl) (by rfl) (by kernel_rfl) (rw5_stable _ _ _) ?_ ?_
  · intro i o hi a wq hk K hK
    have ht1 : a.tmps[1]? = some (.pointer (some ⟨g2, 0, none⟩)) := (hk.old 1 (by decide +kernel)).trans rfl
    have hbq := HT.out.ch hk.ch (fun h => h)
    have hp0 := hbq.cell (i := 0) (v := .int .i64 0) rfl
    have hp1 := hbq.cell (i := 1) (v := .int .i64 1) rfl
    have hp2 := hbq.cell (i := 2) (v := .int .i64 2) rfl
    have hp3 := hbq.cell (i := 3) (v := .slice (some ⟨g1, 0, none⟩) 3 3) rfl
    match i, hi with
    | 0, hi | 2, hi =>
      cases hi
      refine yield_one (v := .agg #[.int .i64 0, .int .i64 1, .int .i64 2, .slice (some ⟨g1, 0, none⟩) 3 3]) (w' := wq) rfl (by go_simp) (hK _ _ rfl (Ch.refl _ _))
    | 1, hi =>
      cases hi
      obtain ⟨v1, h1, h2⟩ := hk.val ⟨0, .data⟩ (by simp) rfl _ 9 rfl rfl
      rw [show v1 = .agg #[.int .i64 0, .int .i64 1, .int .i64 2, .slice (some ⟨g1, 0, none⟩) 3 3] from h2] at h1
      refine yield_call (f := 8) (vs := #[.agg #[.int .i64 0, .int .i64 1, .int .i64 2, .slice (some ⟨g1, 0, none⟩) 3 3]]) rfl (by go_simp) ?_
      refine (HR.out wq hk.ch).mono ?_
      rintro e w' ⟨u, rfl, ho, hc⟩
      exact ⟨u, rfl, hK _ _ ho hc⟩
    | 3, hi =>
      cases hi
      obtain ⟨v1, h1, h2⟩ := hk.val ⟨2, .data⟩ (by simp) rfl _ 11 rfl rfl
      rw [show v1 = .agg #[.int .i64 0, .int .i64 1, .int .i64 2, .slice (some ⟨g1, 0, none⟩) 3 3] from h2] at h1
      refine yield_call (f := 9) (vs := #[.agg #[.int .i64 0, .int .i64 1, .int .i64 2, .slice (some ⟨g1, 0, none⟩) 3 3]]) rfl (by go_simp) ?_
      refine (HW.out wq hk.ch).mono ?_
      rintro e w' ⟨u, rfl, ho, hc⟩
      exact ⟨u, rfl, hK _ _ ho hc⟩
    | 4, hi =>
      cases hi
      obtain ⟨v1, h1, h2⟩ := hk.val ⟨1, .data⟩ (by simp) rfl _ 10 rfl rfl
      have e1 := eval_slot h1
      refine yield_one (v := v1) (w' := wq) rfl ?_ (hK _ _ h2 (Ch.refl _ _))
      simp only [execOp, e1]
      rfl
    | 5, hi =>
      cases hi
      obtain ⟨v1, h1, h2⟩ := hk.val ⟨3, .data⟩ (by simp) rfl _ 12 rfl rfl
      have e1 := eval_slot h1
      refine yield_one (v := v1) (w' := wq) rfl ?_ (hK _ _ h2 (Ch.refl _ _))
      simp only [execOp, e1]
      rfl
    | i + 6, hi => simp at hi
  · intro vals w7 hv7 hc7
    have o1 : OwnO w7 w5.heap.size 33 (vals 4) (readsR sp5 64) := hv7 4 _ 2 rfl rfl
    have o2 : OwnO w7 w5.heap.size 33 (vals 5) (writesR sp5 64) := hv7 5 _ 3 rfl rfl
    rw [sp5_facts.1] at o1
    rw [sp5_facts.2.1] at o2
    simp only [putAll, Act.put, List.setIfInBounds_toArray, List.set_cons_succ, List.set_cons_zero]
    obtain ⟨A1, c1, hs1⟩ := o1.opl.shape
    obtain ⟨A2, c2, hs2⟩ := o2.opl.shape
    have q1 := o1.opl
    have q2 := o2.opl
    rw [hs1] at q1 ⊢
    rw [hs2] at q2 ⊢
    obtain ⟨a1, rfl, x0, x1, x2⟩ := q1.at.2.2 0 (by decide)
    obtain ⟨a2, rfl, y0, y1, y2⟩ := q2.at.2.2 0 (by decide)
    have ha0 : ∀ ad : Addr, ad.add (0 * 3) = ad := fun ad => by unfold Addr.add; simp
    rw [ha0] at x0 x1 x2 y0 y1 y2
    have x0' : w7.cell? a1 = some (.bool false) := x0
    have x1' : w7.cell? ⟨a1.block, a1.off + 1, none⟩ = some (.int .i64 3) := x1
    have x2' : w7.cell? ⟨a1.block, a1.off + 2, none⟩ = some (.int .i64 0) := x2
    have y0' : w7.cell? a2 = some (.bool true) := y0
    have y1' : w7.cell? ⟨a2.block, a2.off + 1, none⟩ = some (.int .i64 3) := y1
    have y2' : w7.cell? ⟨a2.block, a2.off + 2, none⟩ = some (.int .i64 5) := y2
    have hb7 := HT.out.ch hc7 (fun h => h)
    have z0 := hb7.cell (i := 0) (v := .int .i64 0) rfl
    have z1 := hb7.cell (i := 1) (v := .int .i64 1) rfl
    have z2 := hb7.cell (i := 2) (v := .int .i64 2) rfl
    have z3 := hb7.cell (i := 3) (v := .slice (some ⟨g1, 0, none⟩) 3 3) rfl
    have X0 := fun q : Ext w7 => Ext.cell x0' q
    have X1 := fun q : Ext w7 => Ext.cell x1' q
    have X2 := fun q : Ext w7 => Ext.cell x2' q
    have X3 := fun q : Ext w7 => Ext.cell y0' q
    have X4 := fun q : Ext w7 => Ext.cell y1' q
    have X5 := fun q : Ext w7 => Ext.cell y2' q
    have X6 := fun q : Ext w7 => Ext.cell z0 q
    have X7 := fun q : Ext w7 => Ext.cell z1 q
    have X8 := fun q : Ext w7 => Ext.cell z2 q
    have X9 := fun q : Ext w7 => Ext.cell z3 q
    have C1 := Lib.hid (fun q : Ext w7 => ext_of (right_txn q.val _ sp5 0 1 2 (HO.out.keep (hc7.seq q.ch))))
    rw [sp5_facts.2.2.2] at C1
    have C2 := Lib.hid (fun q : Ext w7 => ext_of (steady q.val _ sp5 0 1 2 (HO.out.keep (hc7.seq q.ch)) sp5_keys.1 (by decide)))
    rw [sp5_facts.2.2.1] at C2
    have C3 := Lib.hid (fun q : Ext w7 => ext_of (op_read 3 0 q.val))
    have C4 := Lib.hid (fun q : Ext w7 => ext_of (op_write 3 5 q.val))
    have C5 := fun q : Ext w7 => ext_of (text_txn q.val ⟨0, 1, 2, sp5⟩ _ (HO.out.keep (hc7.seq q.ch)) (by decide) (fit_small _ 0 (by decide)) (fit_small _ 1 (by decide)) (fit_small _ 2 (by decide)) (fun x hx => by
      rcases List.mem_cons.1 hx with rfl | hx
      · exact ⟨(fit_small _ 3 (by decide)), (fit_small _ 0 (by decide))⟩
      · rcases List.mem_cons.1 hx with rfl | hx
        · exact ⟨(fit_small _ 3 (by decide)), (fit_small _ 5 (by decide))⟩
        · rcases List.mem_cons.1 hx with rfl | hx
          · exact ⟨(fit_small _ 3 (by decide)), (fit_small _ 5 (by decide))⟩
          · cases hx))
    rw [sp5_text] at C5
    have C6 := Lib.hid C5
    have hc9 := hc5.seq hc7
    clear hv7 o1 o2 hs1 hs2 q1 q2 ha0 x0 x1 x2 y0 y1 y2 hb7 C5 HR HW
    go_wp2_with fail
    refine wp_region_ch (w0 := w7) (by kernel_rfl) (by kernel_rfl) (Ch.refl _ _) ?_
    repeat go_big_quiet_step (first | (go_at_call 17; exact C1.out _) | (go_at_call 10; exact C2.out _) | (go_at_call 19; exact C3.out _) | (go_at_call 20; exact C4.out _) | (go_at_call 18; exact C6.out _))
    refine wpQuiet_nil ?_
    rintro wq ⟨⟨_, hcq⟩, rfl⟩
    have hend := hc9.seq hcq
    go_wp2_with fail
    go_ret
    exact ⟨rfl, hend⟩
end Go.Proofs.YtobfanodjdkkoaaDoor
