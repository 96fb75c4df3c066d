/- The law TxnRight: which transactions may be; and any of them in words. No condition but each theorem's own. -/
import Derived.Test.YtobfanodjdkkoaaDoorSpk5
import Derived.Test.YtobfanodjdkkoaaDoorNum
import Derived.Test.YtobfanodjdkkoaaDoorMay05
import Derived.Lib.AppendIntMem
set_option linter.unusedVariables false
set_option linter.unusedSimpArgs false
namespace Go.Proofs.YtobfanodjdkkoaaDoor
open Go.RowKit Go.Proofs

/-- The library's table of powers reads as its text lays it. -/
abbrev Tab10 (w : World) : Prop := Lib.TabIs Tryd.prog w "internal/strconv.uint64pow10" .u64 Lib.pow10Tab
theorem var_keep {w w' : World} {name : String} {cs : Array Value} (h : w.var? Tryd.prog name = some cs) (hc : Ch nob w w') : w'.var? Tryd.prog name = some cs := by
  unfold World.var? at h ⊢
  cases e : Tryd.prog.globalNamed name with
  | none => rw [e] at h; cases h
  | some g =>
    rw [e] at h
    simp only [Option.bind_some] at h ⊢
    have hlt : g < w.heap.size := by
      rcases Nat.lt_or_ge g w.heap.size with h' | h'
      · exact h'
      · rw [Array.getElem?_eq_none h'] at h; cases h
    rw [hc.block g hlt (fun h => h)]
    exact h
theorem Tab10.keep {w w' : World} (h : Tab10 w) (hc : Ch nob w w') : Tab10 w' := var_keep h hc
theorem fit_tab {w : World} (hT : Tab10 w) {n : Int} (h : (Lit.int .i64 n).wf = true) : ItoaFit w n := by
  have hb : -9223372036854775808 ≤ n ∧ n ≤ 9223372036854775807 := by
    simp [Lit.wf, IntKind.min, IntKind.max, IntKind.signed, IntKind.bits] at h
    omega
  refine ⟨fun u hc => ?_, Lib.itoa_length_le n hb.1 hb.2⟩
  refine (Tryd.strconv_Itoa n hb.1 hb.2 u (Tab10.keep hT hc)).mono ?_
  rintro e w' ⟨rfl, k, os, rfl⟩
  have hbl := Lib.below_grow u.heap.size u (Nat.le_refl _) k os
  exact ⟨rfl, hbl.os, hbl.tape, hbl.output, hbl.size, fun k hk _ => hbl.block k hk⟩
theorem right_cases (s b c : Int) (n : Nat) (m R : Bool) (hR : (headOk s b c n && m) = R) :
    (decide (0 ≤ s) = false ∧ R = false) ∨
    (decide (0 ≤ s) = true ∧ decide (s < 64) = false ∧ R = false) ∨
    (decide (0 ≤ s) = true ∧ decide (s < 64) = true ∧ decide (0 ≤ b) = false ∧ R = false) ∨
    (decide (0 ≤ s) = true ∧ decide (s < 64) = true ∧ decide (0 ≤ b) = true ∧ decide (b < c) = false ∧ R = false) ∨
    (decide (0 ≤ s) = true ∧ decide (s < 64) = true ∧ decide (0 ≤ b) = true ∧ decide (b < c) = true ∧ decide (c ≤ 2147483647) = false ∧ R = false) ∨
    (decide (0 ≤ s) = true ∧ decide (s < 64) = true ∧ decide (0 ≤ b) = true ∧ decide (b < c) = true ∧ decide (c ≤ 2147483647) = true ∧ decide ((1 : Int) ≤ (n : Int)) = false ∧ R = false) ∨
    (decide (0 ≤ s) = true ∧ decide (s < 64) = true ∧ decide (0 ≤ b) = true ∧ decide (b < c) = true ∧ decide (c ≤ 2147483647) = true ∧ decide ((1 : Int) ≤ (n : Int)) = true ∧ decide ((n : Int) ≤ 64) = false ∧ R = false) ∨
    (decide (0 ≤ s) = true ∧ decide (s < 64) = true ∧ decide (0 ≤ b) = true ∧ decide (b < c) = true ∧ decide (c ≤ 2147483647) = true ∧ decide ((1 : Int) ≤ (n : Int)) = true ∧ decide ((n : Int) ≤ 64) = true ∧ R = m) := by
  subst hR
  have hh : headOk s b c n = (decide (0 ≤ s) && decide (s < 64) && decide (0 ≤ b) && decide (b < c) && decide (c ≤ 2147483647) && decide ((1 : Int) ≤ (n : Int)) && decide ((n : Int) ≤ 64)) := by
    have e1 : decide ((1 : Int) ≤ (n : Int)) = decide (1 ≤ n) := by rw [Bool.eq_iff_iff, decide_eq_true_iff, decide_eq_true_iff]; omega
    have e2 : decide ((n : Int) ≤ 64) = decide (n ≤ 64) := by rw [Bool.eq_iff_iff, decide_eq_true_iff, decide_eq_true_iff]; omega
    rw [e1, e2]; rfl
  rw [hh]
  generalize decide (0 ≤ s) = x0
  generalize decide (s < 64) = x1
  generalize decide (0 ≤ b) = x2
  generalize decide (b < c) = x3
  generalize decide (c ≤ 2147483647) = x4
  generalize decide ((1 : Int) ≤ (n : Int)) = x5
  generalize decide ((n : Int) ≤ 64) = x6
  cases x0
  · exact .inl ⟨rfl, rfl⟩
  cases x1
  · exact .inr (.inl ⟨rfl, rfl, rfl⟩)
  cases x2
  · exact .inr (.inr (.inl ⟨rfl, rfl, rfl, rfl⟩))
  cases x3
  · exact .inr (.inr (.inr (.inl ⟨rfl, rfl, rfl, rfl, rfl⟩)))
  cases x4
  · exact .inr (.inr (.inr (.inr (.inl ⟨rfl, rfl, rfl, rfl, rfl, rfl⟩))))
  cases x5
  · exact .inr (.inr (.inr (.inr (.inr (.inl ⟨rfl, rfl, rfl, rfl, rfl, rfl, rfl⟩)))))
  cases x6
  · exact .inr (.inr (.inr (.inr (.inr (.inr (.inl ⟨rfl, rfl, rfl, rfl, rfl, rfl, rfl, rfl⟩))))))
  exact .inr (.inr (.inr (.inr (.inr (.inr (.inr (⟨rfl, rfl, rfl, rfl, rfl, rfl, rfl, rfl⟩)))))))
theorem str_want (R1 R2 R3 : List UInt8) : ((((((⟨#[116, 120, 110, 32]⟩ : ByteArray) ++ ⟨R1.toArray⟩) ++ ⟨#[32]⟩) ++ ⟨R2.toArray⟩) ++ ⟨#[32]⟩) ++ ⟨R3.toArray⟩) ++ ⟨#[10]⟩ = ⟨(((([116, 120, 110] ++ (32 :: R1)) ++ (32 :: R2)) ++ (32 :: R3)) ++ [10]).toArray⟩ := by
  apply ByteArray.ext
  simp
set_option maxRecDepth 100000 in
set_option maxHeartbeats 8000000 in
theorem law_txnright (w : World) (hT : Tab10 w) (ts tb tc : Int) (h0 : (Lit.int .i64 ts).wf = true) (h1 : (Lit.int .i64 tb).wf = true) (h2 : (Lit.int .i64 tc).wf = true) (u : Value) (xs : List Opn) (hu : Opl w u xs) (hk : ∀ i, i < xs.length → (Lit.int .i64 (xs.getD i opZero).key).wf = true ∧ (Lit.int .i64 (xs.getD i opZero).val).wf = true) :
    Calls Tryd.prog 4 #[.agg #[.int .i64 ts, .int .i64 tb, .int .i64 tc, u]] w fun e w' => e = .returned (.bool true) ∧ Below w.heap.size w w' := by
  obtain ⟨A, cp, rfl⟩ := hu.shape
  have hbd : ∀ n, (Lit.int .i64 n).wf = true → -9223372036854775808 ≤ n ∧ n ≤ 9223372036854775807 := fun n h => by
    simp [Lit.wf, IntKind.min, IntKind.max, IntKind.signed, IntKind.bits] at h
    omega
  have HN1 := Lib.hid (fun u => num_ref03 ts (hbd _ h0).1 (hbd _ h0).2 u)
  have HN2 := Lib.hid (fun u => num_ref03 tb (hbd _ h1).1 (hbd _ h1).2 u)
  have HN3 := Lib.hid (fun u => num_ref03 tc (hbd _ h2).1 (hbd _ h2).2 u)
  have hxm : ∀ x ∈ xs, ItoaFit w x.key ∧ ItoaFit w x.val := fun x hx => by
    obtain ⟨i, hi, rfl⟩ := List.getElem_of_mem hx
    have := hk i hi
    rw [List.getD_eq_getElem?_getD, List.getElem?_eq_getElem hi, Option.getD_some] at this
    exact ⟨fit_tab hT this.1, fit_tab hT this.2⟩
  have HX := Lib.hid hxm
  have F0 := fit_tab hT h0
  have F1 := fit_tab hT h1
  have F2 := fit_tab hT h2
  have hL1 := F0.2
  have hL2 := F1.2
  have hL3 := F2.2
  have HTX := Lib.hid (fun (u : World) (hc : Ch nob w u) (hn : xs.length ≤ 1000000) => text_txn u ⟨ts, tb, tc, xs⟩ _ (hu.keep hc) hn (F0.keep hc) (F1.keep hc) (F2.keep hc) (fun x hx => ⟨(hxm x hx).1.keep hc, (hxm x hx).2.keep hc⟩))
  dsimp only at HTX
  have HTL := Lib.hid (textTo_len (t := ⟨ts, tb, tc, xs⟩) hL1 hL2 hL3 (fun x hm => ⟨(hxm x hm).1.2, (hxm x hm).2.2⟩))
  have HT0 := Lib.hid (show textTo ⟨ts, tb, tc, xs⟩ 0 = ((([116, 120, 110] ++ (32 :: Lib.itoa ts)) ++ (32 :: Lib.itoa tb)) ++ (32 :: Lib.itoa tc)) ++ [10] from rfl)
  have HTS := Lib.hid (fun j => show textTo ⟨ts, tb, tc, xs⟩ (j + 1) = textTo ⟨ts, tb, tc, xs⟩ j ++ (opB (xs.getD j opZero) ++ [10]) from rfl)
  have HTE := Lib.hid (show textB ⟨ts, tb, tc, xs⟩ = textTo ⟨ts, tb, tc, xs⟩ xs.length from rfl)
  obtain ⟨TT, hTT⟩ : ∃ q, textTo ⟨ts, tb, tc, xs⟩ = q := ⟨_, rfl⟩
  rw [hTT] at HTL HT0 HTS HTE
  rw [HTE.out] at HTX
  obtain ⟨R1, hR1⟩ : ∃ q, Lib.itoa ts = q := ⟨_, rfl⟩
  obtain ⟨R2, hR2⟩ : ∃ q, Lib.itoa tb = q := ⟨_, rfl⟩
  obtain ⟨R3, hR3⟩ : ∃ q, Lib.itoa tc = q := ⟨_, rfl⟩
  rw [hR1] at HN1 HT0 hL1
  rw [hR2] at HN2 HT0 hL2
  rw [hR3] at HN3 HT0 hL3
  have HWA := Lib.hid ((str_want R1 R2 R3).trans (show _ = (⟨(TT 0).toArray⟩ : ByteArray) from by rw [HT0.out]))
  have HRT := Lib.hid (fun (u : World) (hc : Ch nob w u) => right_txn u _ xs ts tb tc (hu.keep hc))
  have HMY := Lib.hid (fun (u : World) (hc : Ch nob w u) => may_law05 u _ xs (hu.keep hc))
  have NN1 := Lib.hid (fun (w0 : World) (q : Ext w0) => ext_of (HN1.out q.val))
  have NN2 := Lib.hid (fun (w0 : World) (q : Ext w0) => ext_of (HN2.out q.val))
  have NN3 := Lib.hid (fun (w0 : World) (q : Ext w0) => ext_of (HN3.out q.val))
  have hRR : (headOk ts tb tc xs.length && mayL xs) = txnOk ts tb tc xs := rfl
  obtain ⟨R, hR⟩ : ∃ q, txnOk ts tb tc xs = q := ⟨_, rfl⟩
  rw [hR] at HRT hRR
  obtain ⟨n, hn⟩ : ∃ n, xs.length = n := ⟨_, rfl⟩
  have hnl : n ≤ 9223372036854775807 := by have := hu.at.2.1.2; rw [hn] at this; exact this
  have HN := Lib.hid hn
  rw [hn] at hu HTX HRT HMY HTL hRR ⊢
  have HU := Lib.hid hu
  have q1 : ¬ 9223372036854775807 < 4 + R1.length := by omega
  have q2 : ¬ 9223372036854775807 < 4 + R1.length + 1 := by omega
  have q3 : ¬ 9223372036854775807 < 4 + R1.length + 1 + R2.length := by omega
  have q4 : ¬ 9223372036854775807 < 4 + R1.length + 1 + R2.length + 1 := by omega
  have q5 : ¬ 9223372036854775807 < 4 + R1.length + 1 + R2.length + 1 + R3.length := by omega
  have q6 : ¬ 9223372036854775807 < 4 + R1.length + 1 + R2.length + 1 + R3.length + 1 := by omega
  have hbx := Blk.new w #[.int .i64 ts, .int .i64 tb, .int .i64 tc, .slice A n cp] 26
  have hc0 : Ch nob w (w.alloc (.cells #[.int .i64 ts, .int .i64 tb, .int .i64 tc, .slice A n cp] 26)) := (Ch.refl _ _).alloc _
  clear hu hk hbd hxm hTT hR1 hR2 hR3 hR hn F0 F1 F2 h0 h1 h2 hT
  go_enter Tryd.func4, Tryd.ntmps4
  go_wp2_with fail
  refine (speaks05 _).mono ?_
  rintro e w1 ⟨rfl, hc1⟩
  have hb1 := Lib.hid (hbx.ch hc1 (fun h => h))
  have hc2 := hc0.seq hc1
  have hp3 := hb1.out.cell (i := 3) (v := .slice A n cp) rfl
  clear hbx hc0 hc1
  cases d100 : decide ((100 : Int) < (n : Int)) with
  | true =>
    go_wp2_with fail
    go_ret
    exact ⟨rfl, hc2.below⟩
  | false =>
    have hn100 : n ≤ 100 := by have := of_decide_eq_false d100; omega
    have hp0 := hb1.out.cell (i := 0) (v := .int .i64 ts) rfl
    have hp1 := hb1.out.cell (i := 1) (v := .int .i64 tb) rfl
    have hp2 := hb1.out.cell (i := 2) (v := .int .i64 tc) rfl
    obtain ⟨g, hg⟩ : ∃ g, w.heap.size = g := ⟨_, rfl⟩
    have HG := Lib.hid hg
    rw [hg] at hb1 hp0 hp1 hp2 hp3 ⊢
    clear hg
    obtain ⟨m, hm⟩ : ∃ q, mayL xs = q := ⟨_, rfl⟩
    have HMN := Lib.hid (show mayN xs = if m then 1 else 0 from by unfold mayN; rw [hm])
    rw [hm] at hRR
    rw [HMN.out] at HMY
    clear hm
    have hcs := right_cases ts tb tc n m R hRR
    clear hRR
    cases m with
    | false =>
      have hz : (if (false : Bool) = true then (1 : Int) else 0) = 0 := rfl
      rw [hz] at HMY
      clear hz
      rcases hcs with ⟨d0, rfl⟩ | ⟨d0, d1, rfl⟩ | ⟨d0, d1, d2, rfl⟩ | ⟨d0, d1, d2, d3, rfl⟩ | ⟨d0, d1, d2, d3, d4, rfl⟩ | ⟨d0, d1, d2, d3, d4, d5, rfl⟩ | ⟨d0, d1, d2, d3, d4, d5, d6, rfl⟩ | ⟨d0, d1, d2, d3, d4, d5, d6, rfl⟩
      all_goals
        go_wp2_with (go_at_call 7; refine (HMY.out _ hc2).mono ?_; rintro e wm ⟨rfl, hcm⟩; have hcX := hc2.seq hcm; have hbX := Lib.hid (hb1.out.ch hcm (fun h => h)); have hp0 := hbX.out.cell (i := 0) (v := .int .i64 ts) rfl; have hp1 := hbX.out.cell (i := 1) (v := .int .i64 tb) rfl; have hp2 := hbX.out.cell (i := 2) (v := .int .i64 tc) rfl; have hp3 := hbX.out.cell (i := 3) (v := .slice A n cp) rfl)
        first | (have hcY := hcX; have hbY := hbX) | (have hcY := hc2; have hbY := hb1)
        have hz0 := hbY.out.cell (i := 0) (v := .int .i64 ts) rfl
        have hz1 := hbY.out.cell (i := 1) (v := .int .i64 tb) rfl
        have hz2 := hbY.out.cell (i := 2) (v := .int .i64 tc) rfl
        have X0 := fun q : Ext _ => Ext.cell hz0 q
        have X1 := fun q : Ext _ => Ext.cell hz1 q
        have X2 := fun q : Ext _ => Ext.cell hz2 q
        refine wp_region_ch (w0 := _) (by kernel_rfl) (by kernel_rfl) (Ch.refl _ _) ?_
        repeat go_big_quiet_step (first | (go_at_call_of 15 (Value.int .i64 ts); exact NN1.out _ _) | (go_at_call_of 15 (Value.int .i64 tb); exact NN2.out _ _) | (go_at_call_of 15 (Value.int .i64 tc); exact NN3.out _ _))
        refine wpQuiet_nil ?_
        rintro wq ⟨⟨_, hcq⟩, rfl⟩
        have hcZ := hcY.seq hcq
        have hbZ := Lib.hid (hbY.out.ch hcq (fun h => h))
        have hy3 := hbZ.out.cell (i := 3) (v := .slice A n cp) rfl
        clear X0 X1 X2 hz0 hz1 hz2 hcq hcY hbY
        go_wp2_with fail
        rw [HWA.out]
        go_loopw [74, 4] (fun x y wr => ∃ j : Nat, x = .int .i64 j ∧ j ≤ n ∧ y = .string ⟨(TT j).toArray⟩ ∧ Ch nob wq wr) (fun x _ _ => n - (intOf x).toNat)
        case atStart => exact ⟨0, rfl, Nat.zero_le _, rfl, Ch.refl _ _⟩
        case round =>
          clear hy3
          obtain ⟨j, rfl, hj, rfl, hc⟩ := hrel
          have hcw := hcZ.seq hc
          by_cases hlt : j < n
          · have hd : decide ((j : Int) < (n : Int)) = true := decide_eq_true (by omega)
            obtain ⟨ad, rfl, hx0, hx1, hx2⟩ := (HU.out.keep hcw).at.2.2 j (by rw [HN.out]; exact hlt)
            have hxm : xs.getD j opZero ∈ xs := by
              rw [List.getD_eq_getElem?_getD, List.getElem?_eq_getElem (by rw [HN.out]; exact hlt)]
              exact List.getElem_mem _
            have hst := HTS.out j
            have hfit := HX.out _ hxm
            obtain ⟨x, hxx⟩ : ∃ x, xs.getD j opZero = x := ⟨_, rfl⟩
            rw [hxx] at hx0 hx1 hx2 hst hfit
            obtain ⟨xw, xk, xv⟩ := x
            dsimp only at hx0 hx1 hx2 hfit
            have hcB := hc.alloc (.cells #[.bool xw, .int .i64 xk, .int .i64 xv] 33)
            have HO := text_op (wr.alloc (.cells #[.bool xw, .int .i64 xk, .int .i64 xv] 33)) ⟨xw, xk, xv⟩ (hfit.1.keep (hcZ.seq hcB)) (hfit.2.keep (hcZ.seq hcB))
            dsimp only at HO
            have hol := opB_len (x := ⟨xw, xk, xv⟩) hfit.1.2 hfit.2.2
            obtain ⟨R9, hR9⟩ : ∃ q, opB ⟨xw, xk, xv⟩ = q := ⟨_, rfl⟩
            rw [hR9] at HO hst hol
            have htl := HTL.out j (by omega)
            have hq1 : ¬ 9223372036854775807 < R9.length + 1 := by omega
            have hq2 : ¬ 9223372036854775807 < (TT j).length + (R9.length + 1) := by omega
            have HO2 := Lib.hid HO
            have e1 : (⟨R9.toArray⟩ : ByteArray) ++ ⟨#[10]⟩ = ⟨(R9 ++ [10]).toArray⟩ := str_append R9 [10]
            have e2 : (⟨(TT j).toArray⟩ : ByteArray) ++ ⟨(R9 ++ [10]).toArray⟩ = ⟨(TT (j + 1)).toArray⟩ := by rw [str_append, hst]
            have E1 := Lib.hid e1
            have E2 := Lib.hid e2
            clear hxm hst hfit hxx HO hR9 hc e1 e2 hol htl hcw
            go_wp2_with fail
            refine HO2.out.mono ?_
            rintro e w4 ⟨rfl, hc4⟩
            have hc5 := hcB.seq hc4
            clear HO2 hcB hc4 hx0 hx1 hx2
            go_wp2_with fail
            rw [E1.out, E2.out]
            go_roundw
            case rel => exact ⟨j + 1, by go_num, by omega, rfl, hc5⟩
            case measure => simp [intOf]; omega
          · have hd : decide ((j : Int) < (n : Int)) = false := decide_eq_false (by omega)
            obtain rfl : j = n := by omega
            have hbW := Lib.hid (hbZ.out.ch hc (fun h => h))
            have t0 := hbW.out.cell (i := 0) (v := .int .i64 ts) rfl
            have t1 := hbW.out.cell (i := 1) (v := .int .i64 tb) rfl
            have t2 := hbW.out.cell (i := 2) (v := .int .i64 tc) rfl
            have t3 := hbW.out.cell (i := 3) (v := .slice A j cp) rfl
            clear hc
            go_wp2_with fail
            refine (HRT.out _ hcw).mono ?_
            rintro e w5 ⟨rfl, hc5⟩
            have hcw5 := hcw.seq hc5
            have hb5 := Lib.hid (hbW.out.ch hc5 (fun h => h))
            have u0 := hb5.out.cell (i := 0) (v := .int .i64 ts) rfl
            have u1 := hb5.out.cell (i := 1) (v := .int .i64 tb) rfl
            have u2 := hb5.out.cell (i := 2) (v := .int .i64 tc) rfl
            have u3 := hb5.out.cell (i := 3) (v := .slice A j cp) rfl
            clear t0 t1 t2 t3 hbW hcw hc5
            go_wp2_with fail
            refine (HMY.out _ hcw5).mono ?_
            rintro e w6 ⟨rfl, hc6⟩
            have hcw6 := hcw5.seq hc6
            have hb6 := Lib.hid (hb5.out.ch hc6 (fun h => h))
            have y0 := hb6.out.cell (i := 0) (v := .int .i64 ts) rfl
            have y1 := hb6.out.cell (i := 1) (v := .int .i64 tb) rfl
            have y2 := hb6.out.cell (i := 2) (v := .int .i64 tc) rfl
            have y3 := hb6.out.cell (i := 3) (v := .slice A j cp) rfl
            clear u0 u1 u2 u3 hb5 hcw5 hc6
            go_wp2_with fail
            go_ret
            exact ⟨rfl, hcw6.below⟩
    | true =>
      have hz : (if (true : Bool) = true then (1 : Int) else 0) = 1 := rfl
      rw [hz] at HMY
      clear hz
      rcases hcs with ⟨d0, rfl⟩ | ⟨d0, d1, rfl⟩ | ⟨d0, d1, d2, rfl⟩ | ⟨d0, d1, d2, d3, rfl⟩ | ⟨d0, d1, d2, d3, d4, rfl⟩ | ⟨d0, d1, d2, d3, d4, d5, rfl⟩ | ⟨d0, d1, d2, d3, d4, d5, d6, rfl⟩ | ⟨d0, d1, d2, d3, d4, d5, d6, rfl⟩
      all_goals
        go_wp2_with (go_at_call 7; refine (HMY.out _ hc2).mono ?_; rintro e wm ⟨rfl, hcm⟩; have hcX := hc2.seq hcm; have hbX := Lib.hid (hb1.out.ch hcm (fun h => h)); have hp0 := hbX.out.cell (i := 0) (v := .int .i64 ts) rfl; have hp1 := hbX.out.cell (i := 1) (v := .int .i64 tb) rfl; have hp2 := hbX.out.cell (i := 2) (v := .int .i64 tc) rfl; have hp3 := hbX.out.cell (i := 3) (v := .slice A n cp) rfl)
        first | (have hcY := hcX; have hbY := hbX) | (have hcY := hc2; have hbY := hb1)
        have hz0 := hbY.out.cell (i := 0) (v := .int .i64 ts) rfl
        have hz1 := hbY.out.cell (i := 1) (v := .int .i64 tb) rfl
        have hz2 := hbY.out.cell (i := 2) (v := .int .i64 tc) rfl
        have X0 := fun q : Ext _ => Ext.cell hz0 q
        have X1 := fun q : Ext _ => Ext.cell hz1 q
        have X2 := fun q : Ext _ => Ext.cell hz2 q
        refine wp_region_ch (w0 := _) (by kernel_rfl) (by kernel_rfl) (Ch.refl _ _) ?_
        repeat go_big_quiet_step (first | (go_at_call_of 15 (Value.int .i64 ts); exact NN1.out _ _) | (go_at_call_of 15 (Value.int .i64 tb); exact NN2.out _ _) | (go_at_call_of 15 (Value.int .i64 tc); exact NN3.out _ _))
        refine wpQuiet_nil ?_
        rintro wq ⟨⟨_, hcq⟩, rfl⟩
        have hcZ := hcY.seq hcq
        have hbZ := Lib.hid (hbY.out.ch hcq (fun h => h))
        have hy3 := hbZ.out.cell (i := 3) (v := .slice A n cp) rfl
        clear X0 X1 X2 hz0 hz1 hz2 hcq hcY hbY
        go_wp2_with fail
        rw [HWA.out]
        go_loopw [74, 4] (fun x y wr => ∃ j : Nat, x = .int .i64 j ∧ j ≤ n ∧ y = .string ⟨(TT j).toArray⟩ ∧ Ch nob wq wr) (fun x _ _ => n - (intOf x).toNat)
        case atStart => exact ⟨0, rfl, Nat.zero_le _, rfl, Ch.refl _ _⟩
        case round =>
          clear hy3
          obtain ⟨j, rfl, hj, rfl, hc⟩ := hrel
          have hcw := hcZ.seq hc
          by_cases hlt : j < n
          · have hd : decide ((j : Int) < (n : Int)) = true := decide_eq_true (by omega)
            obtain ⟨ad, rfl, hx0, hx1, hx2⟩ := (HU.out.keep hcw).at.2.2 j (by rw [HN.out]; exact hlt)
            have hxm : xs.getD j opZero ∈ xs := by
              rw [List.getD_eq_getElem?_getD, List.getElem?_eq_getElem (by rw [HN.out]; exact hlt)]
              exact List.getElem_mem _
            have hst := HTS.out j
            have hfit := HX.out _ hxm
            obtain ⟨x, hxx⟩ : ∃ x, xs.getD j opZero = x := ⟨_, rfl⟩
            rw [hxx] at hx0 hx1 hx2 hst hfit
            obtain ⟨xw, xk, xv⟩ := x
            dsimp only at hx0 hx1 hx2 hfit
            have hcB := hc.alloc (.cells #[.bool xw, .int .i64 xk, .int .i64 xv] 33)
            have HO := text_op (wr.alloc (.cells #[.bool xw, .int .i64 xk, .int .i64 xv] 33)) ⟨xw, xk, xv⟩ (hfit.1.keep (hcZ.seq hcB)) (hfit.2.keep (hcZ.seq hcB))
            dsimp only at HO
            have hol := opB_len (x := ⟨xw, xk, xv⟩) hfit.1.2 hfit.2.2
            obtain ⟨R9, hR9⟩ : ∃ q, opB ⟨xw, xk, xv⟩ = q := ⟨_, rfl⟩
            rw [hR9] at HO hst hol
            have htl := HTL.out j (by omega)
            have hq1 : ¬ 9223372036854775807 < R9.length + 1 := by omega
            have hq2 : ¬ 9223372036854775807 < (TT j).length + (R9.length + 1) := by omega
            have HO2 := Lib.hid HO
            have e1 : (⟨R9.toArray⟩ : ByteArray) ++ ⟨#[10]⟩ = ⟨(R9 ++ [10]).toArray⟩ := str_append R9 [10]
            have e2 : (⟨(TT j).toArray⟩ : ByteArray) ++ ⟨(R9 ++ [10]).toArray⟩ = ⟨(TT (j + 1)).toArray⟩ := by rw [str_append, hst]
            have E1 := Lib.hid e1
            have E2 := Lib.hid e2
            clear hxm hst hfit hxx HO hR9 hc e1 e2 hol htl hcw
            go_wp2_with fail
            refine HO2.out.mono ?_
            rintro e w4 ⟨rfl, hc4⟩
            have hc5 := hcB.seq hc4
            clear HO2 hcB hc4 hx0 hx1 hx2
            go_wp2_with fail
            rw [E1.out, E2.out]
            go_roundw
            case rel => exact ⟨j + 1, by go_num, by omega, rfl, hc5⟩
            case measure => simp [intOf]; omega
          · have hd : decide ((j : Int) < (n : Int)) = false := decide_eq_false (by omega)
            obtain rfl : j = n := by omega
            have hbW := Lib.hid (hbZ.out.ch hc (fun h => h))
            have t0 := hbW.out.cell (i := 0) (v := .int .i64 ts) rfl
            have t1 := hbW.out.cell (i := 1) (v := .int .i64 tb) rfl
            have t2 := hbW.out.cell (i := 2) (v := .int .i64 tc) rfl
            have t3 := hbW.out.cell (i := 3) (v := .slice A j cp) rfl
            clear hc
            go_wp2_with fail
            refine (HRT.out _ hcw).mono ?_
            rintro e w5 ⟨rfl, hc5⟩
            have hcw5 := hcw.seq hc5
            have hb5 := Lib.hid (hbW.out.ch hc5 (fun h => h))
            have u0 := hb5.out.cell (i := 0) (v := .int .i64 ts) rfl
            have u1 := hb5.out.cell (i := 1) (v := .int .i64 tb) rfl
            have u2 := hb5.out.cell (i := 2) (v := .int .i64 tc) rfl
            have u3 := hb5.out.cell (i := 3) (v := .slice A j cp) rfl
            clear t0 t1 t2 t3 hbW hcw hc5
            go_wp2_with fail
            refine (HMY.out _ hcw5).mono ?_
            rintro e w6 ⟨rfl, hc6⟩
            have hcw6 := hcw5.seq hc6
            have hb6 := Lib.hid (hb5.out.ch hc6 (fun h => h))
            have y0 := hb6.out.cell (i := 0) (v := .int .i64 ts) rfl
            have y1 := hb6.out.cell (i := 1) (v := .int .i64 tb) rfl
            have y2 := hb6.out.cell (i := 2) (v := .int .i64 tc) rfl
            have y3 := hb6.out.cell (i := 3) (v := .slice A j cp) rfl
            clear u0 u1 u2 u3 hb5 hcw5 hc6
            go_wp2_with fail
            refine (HTX.out _ hcw6 (by omega)).mono ?_
            rintro e w7 ⟨rfl, hc7⟩
            have hcw7 := hcw6.seq hc7
            clear y0 y1 y2 y3 hb6 hcw6 hc7
            go_wp2_with fail
            go_ret
            exact ⟨rfl, hcw7.below⟩
end Go.Proofs.YtobfanodjdkkoaaDoor
