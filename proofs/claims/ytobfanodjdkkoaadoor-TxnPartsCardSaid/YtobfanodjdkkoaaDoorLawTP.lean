/- The law TxnParts: of any operations whether they are steady, what is read of others, and what is written for them. No condition but each theorem's own. -/
import Derived.Test.YtobfanodjdkkoaaDoorSpk5
import Derived.Test.YtobfanodjdkkoaaDoorSame5
import Derived.Test.YtobfanodjdkkoaaDoorMay05
import Derived.Test.YtobfanodjdkkoaaDoorRef05d
import Derived.Test.YtobfanodjdkkoaaDoorOpAp
set_option linter.unusedVariables false
set_option linter.unusedSimpArgs false
namespace Go.Proofs.YtobfanodjdkkoaaDoor
open Go.RowKit Go.Proofs

theorem may_keys {xs : List Opn} (h : mayL xs = true) : Keys64 xs := fun i hi => by
  have h2 := may_at h hi
  unfold opOk at h2
  simp only [Bool.and_eq_true, decide_eq_true_eq] at h2
  exact ⟨h2.1.1.1.1, h2.1.1.1.2⟩
/-- A row whose keys are whole numbers. -/
def KeyRow (w : World) (base : Nat) (A : Option Addr) (q : Nat) : Prop := 0 < q → ∃ g, A = some ⟨g, 0, none⟩ ∧ base ≤ g ∧ ∃ C, Blk w g C 33 ∧ ∀ j, j < q → ∃ z, C[j * 3 + 1]? = some (.int .i64 z)
theorem OwnO.keyRow {w : World} {base n c : Nat} {A : Option Addr} {xs : List Opn} (h : OwnO w base 33 (.slice A n c) xs) (hn : xs.length = n) : KeyRow w base A n := fun h0 => by
  rcases h.2 with ⟨_, hx⟩ | ⟨g, cap, cur, hv, hb, hg, hle, hcap, hsz, htake⟩
  · omega
  · have hA : A = some ⟨g, 0, none⟩ := by simp only [Value.slice.injEq] at hv; exact hv.1
    subst hA
    refine ⟨g, rfl, hb, cur, hg, fun j hj => ⟨(xs.getD j opZero).key, ?_⟩⟩
    have hc := World.ownsRow.cells h (g := g) rfl
    have h1 := hc _ _ (flatO_at xs j (by omega)).2.1
    rw [show (⟨g, 0, none⟩ : Addr).add (j * 3 + 1) = ⟨g, j * 3 + 1, none⟩ from by unfold Addr.add; split <;> simp_all] at h1
    unfold World.cell? at h1
    rw [hg] at h1
    simpa using h1
theorem KeyRow.put {w : World} {base g q i : Nat} {z : Int} (h : KeyRow w base (some ⟨g, 0, none⟩) q) : KeyRow (w.setCell ⟨g, i * 3 + 1, none⟩ (.int .i64 z)) base (some ⟨g, 0, none⟩) q := fun h0 => by
  obtain ⟨g2, hg, hb, C, hC, hz⟩ := h h0
  have : g = g2 := by simp at hg; exact hg
  subst this
  refine ⟨g, rfl, hb, _, hC.set (i * 3 + 1) (.int .i64 z), fun j hj => ?_⟩
  obtain ⟨y, hy⟩ := hz j hj
  by_cases e : i = j
  · subst e
    refine ⟨z, ?_⟩
    have hlt : i * 3 + 1 < C.size := (Array.getElem?_eq_some_iff.1 hy).1
    simp [hlt]
  · refine ⟨y, ?_⟩
    rw [Array.getElem?_setIfInBounds_ne (by omega)]
    exact hy
theorem KeyRow.keep {w w' : World} {base q : Nat} {A : Option Addr} (h : KeyRow w base A q) (hc : Ch nob w w') : KeyRow w' base A q := fun h0 => by
  obtain ⟨g, hg, hb, C, hC, hz⟩ := h h0
  exact ⟨g, hg, hb, C, hC.ch hc (fun h => h), hz⟩
set_option maxRecDepth 100000 in
set_option maxHeartbeats 4000000 in
theorem law_txnparts (w : World) (v : Value) (xs : List Opn) (hv : Opl w v xs) (hk : KeysOk xs) : Calls Tryd.prog 3 #[v] w fun e w' => e = .returned (.bool true) ∧ Below w.heap.size w w' := by
  obtain ⟨A, cp, rfl⟩ := hv.shape
  have HV := Lib.hid hv
  have HK := Lib.hid hk
  obtain ⟨n, hn⟩ : ∃ n, xs.length = n := ⟨_, rfl⟩
  have HN := Lib.hid hn
  rw [hn] at HV ⊢
  clear hv hk hn
  go_enter Tryd.func3, Tryd.ntmps3
  go_wp2_with fail
  refine (speaks05 _).mono ?_
  rintro e w1 ⟨rfl, hc1⟩
  cases d100 : decide ((100 : Int) < (n : Int)) with
  | true =>
    go_wp2_with fail
    go_ret
    exact ⟨rfl, hc1.below⟩
  | false =>
    have hn100 : n ≤ 100 := by have := of_decide_eq_false d100; omega
    go_wp2_with fail
    refine (may_law05 w1 (.slice A n cp) xs (HV.out.keep hc1)).mono ?_
    rintro e w2 ⟨rfl, hc2⟩
    have hc3 := hc1.seq hc2
    clear hc1 hc2
    cases hm : mayL xs with
    | false =>
      rw [← mayN_no hm]
      go_wp2_with fail
      go_ret
      exact ⟨rfl, hc3.below⟩
    | true =>
      rw [← mayN_yes hm]
      have H64 := Lib.hid (may_keys hm)
      have hcA := hc3.alloc (.cells #[] 33)
      have hmd := Lib.hid (OwnO.made w2 w2.heap.size 33 (Nat.le_refl _))
      have hva := HV.out.keep hcA
      have hxl : xs.length ≤ 1000000 := by rw [HN.out]; omega
      clear hm
      go_wp2_with (at_builtin; refine wpList_append_opl rfl (.tmp 18) (.tmp 19) 22 33 rfl elem_op w2.heap.size _ [] rfl hmd.out _ xs rfl hva (by simp) hxl (by simp) ?_; intro v3 w3 hown3 hg3; obtain ⟨A3, c3, hv3⟩ := (show ∃ A c, v3 = .slice A xs.length c from hown3.opl.shape); subst hv3; have hcB : Ch nob w w3 := hcA.grown_own hg3 (fun b hb => by have h1 := (hmd.out.ge b hb).1; have h2 := hc3.size; omega))
      have hown4 : OwnO w3 w2.heap.size 33 (.slice A3 xs.length c3) xs := hown3
      have hcC := hcB.alloc (.cells #[.int .i64 0, .int .i64 0, .int .i64 0, .slice A3 xs.length c3] 26)
      have hbT := Blk.new w3 #[.int .i64 0, .int .i64 0, .int .i64 0, .slice A3 xs.length c3] 26
      have hoT := hown4.alloc (.cells #[.int .i64 0, .int .i64 0, .int .i64 0, .slice A3 xs.length c3] 26)
      obtain ⟨w5, hw5⟩ : ∃ u, w3.alloc (.cells #[.int .i64 0, .int .i64 0, .int .i64 0, .slice A3 xs.length c3] 26) = u := ⟨_, rfl⟩
      rw [hw5] at hcC hbT hoT ⊢
      obtain ⟨g2, hg2⟩ : ∃ g, w3.heap.size = g := ⟨_, rfl⟩
      rw [hg2] at hbT ⊢
      rw [HN.out] at hbT hoT ⊢
      have HO := Lib.hid hoT.opl
      have HT := Lib.hid hbT
      have HR := Lib.hid (fun (u : World) (hc : Ch nob w5 u) => reads64 u _ xs 0 0 0 (HO.out.keep hc) HK.out H64.out hxl w5.heap.size hc.size)
      have HW := Lib.hid (fun (u : World) (hc : Ch nob w5 u) => writes64 u _ xs 0 0 0 (HO.out.keep hc) HK.out H64.out hxl w5.heap.size hc.size)
      have HRR := Lib.hid (fun (u : World) (hc : Ch nob w u) => reads_ref05 u _ xs (HV.out.keep hc) (by rw [HN.out]; omega))
      have HRW := Lib.hid (fun (u : World) (hc : Ch nob w u) => writes_ref05 u _ xs (HV.out.keep hc) (by rw [HN.out]; omega))
      have HST := Lib.hid (fun (u : World) (hc : Ch nob w5 u) => steady u _ xs 0 0 0 (HO.out.keep hc) HK.out hxl)
      have HSR := Lib.hid (fun (u : World) (hc : Ch nob w u) => steady_ref05 u _ xs (HV.out.keep hc) hxl)
      obtain ⟨RR, hRR⟩ : ∃ q, readsR xs 64 = q := ⟨_, rfl⟩
      obtain ⟨WW, hWW⟩ : ∃ q, writesR xs 64 = q := ⟨_, rfl⟩
      obtain ⟨sb, hsb⟩ : ∃ q, steadyB xs = q := ⟨_, rfl⟩
      rw [hRR] at HR HRR
      rw [hWW] at HW HRW
      rw [hsb] at HST HSR
      have HRX := Lib.hid hRR
      have HWX := Lib.hid hWW
      have esb : (sb != sb) = false := by cases sb <;> rfl
      clear hown3 hown4 hg3 hcB hoT hbT hw5 hg2 hva hcA hc3 hmd hRR hWW hsb
      refine wp_region_yield (rw5 w5.heap.size xs (.agg #[.int .i64 0, .int .i64 0, .int .i64 0, .slice A3 n c3])) (by kernel_rfl) (by kernel_rfl) (by rfl) (by kernel_rfl) (rw5_stable _ _ _) ?_ ?_
      · intro i o hi a wq hk K hK
        have ht1 : a.tmps[4]? = some (.pointer (some ⟨g2, 0, none⟩)) := (hk.old 4 (by decide +kernel)).trans rfl
        have hbq := HT.out.ch hk.ch (fun h => h)
        have hp0 := hbq.cell (i := 0) (v := .int .i64 0) rfl
        have hp1 := hbq.cell (i := 1) (v := .int .i64 0) rfl
        have hp2 := hbq.cell (i := 2) (v := .int .i64 0) rfl
        have hp3 := hbq.cell (i := 3) (v := .slice A3 n c3) rfl
        match i, hi with
        | 0, hi | 2, hi =>
          cases hi
          refine yield_one (v := .agg #[.int .i64 0, .int .i64 0, .int .i64 0, .slice A3 n c3]) (w' := wq) rfl (by go_simp) (hK _ _ rfl (Ch.refl _ _))
        | 1, hi =>
          cases hi
          obtain ⟨v1, h1, h2⟩ := hk.val ⟨0, .data⟩ (by simp) rfl _ 23 rfl rfl
          rw [show v1 = .agg #[.int .i64 0, .int .i64 0, .int .i64 0, .slice A3 n c3] from h2] at h1
          refine yield_call (f := 8) (vs := #[.agg #[.int .i64 0, .int .i64 0, .int .i64 0, .slice A3 n c3]]) rfl (by go_simp) ?_
          refine (HR.out wq hk.ch).mono ?_
          rintro e w' ⟨u, rfl, ho, hc⟩
          exact ⟨u, rfl, hK _ _ (show OwnO _ _ _ _ (readsR xs 64) from by rw [HRX.out]; exact ho) hc⟩
        | 3, hi =>
          cases hi
          obtain ⟨v1, h1, h2⟩ := hk.val ⟨2, .data⟩ (by simp) rfl _ 25 rfl rfl
          rw [show v1 = .agg #[.int .i64 0, .int .i64 0, .int .i64 0, .slice A3 n c3] from h2] at h1
          refine yield_call (f := 9) (vs := #[.agg #[.int .i64 0, .int .i64 0, .int .i64 0, .slice A3 n c3]]) rfl (by go_simp) ?_
          refine (HW.out wq hk.ch).mono ?_
          rintro e w' ⟨u, rfl, ho, hc⟩
          exact ⟨u, rfl, hK _ _ (show OwnO _ _ _ _ (writesR xs 64) from by rw [HWX.out]; exact ho) hc⟩
        | 4, hi =>
          cases hi
          obtain ⟨v1, h1, h2⟩ := hk.val ⟨1, .data⟩ (by simp) rfl _ 24 rfl rfl
          have e1 := eval_slot h1
          refine yield_one (v := v1) (w' := wq) rfl ?_ (hK _ _ h2 (Ch.refl _ _))
          simp only [execOp, e1]
          rfl
        | 5, hi =>
          cases hi
          obtain ⟨v1, h1, h2⟩ := hk.val ⟨3, .data⟩ (by simp) rfl _ 26 rfl rfl
          have e1 := eval_slot h1
          refine yield_one (v := v1) (w' := wq) rfl ?_ (hK _ _ h2 (Ch.refl _ _))
          simp only [execOp, e1]
          rfl
        | i + 6, hi => simp at hi
      · intro vals w7 hv7 hc7
        have o1 : OwnO w7 w5.heap.size 33 (vals 4) (readsR xs 64) := hv7 4 _ 5 rfl rfl
        have o2 : OwnO w7 w5.heap.size 33 (vals 5) (writesR xs 64) := hv7 5 _ 6 rfl rfl
        rw [HRX.out] at o1
        rw [HWX.out] at o2
        simp only [putAll, Act.put, List.setIfInBounds_toArray, List.set_cons_succ, List.set_cons_zero]
        obtain ⟨A1, c1, hs1⟩ := o1.opl.shape
        obtain ⟨A2, c2, hs2⟩ := o2.opl.shape
        have q1 := o1
        have q2 := Lib.hid o2.opl
        rw [hs1] at q1 ⊢
        rw [hs2] at q2 ⊢
        have Q1 := Lib.hid q1.opl
        obtain ⟨q, hq⟩ : ∃ q, RR.length = q := ⟨_, rfl⟩
        have hql : q ≤ 9223372036854775807 := by have := q1.len; omega
        have HKR := Lib.hid (show KeyRow w7 w5.heap.size A1 q from by rw [hq] at q1; exact q1.keyRow hq)
        rw [hq] at Q1 ⊢
        have hb7 := HT.out.ch hc7 (fun h => h)
        have z0 := hb7.cell (i := 0) (v := .int .i64 0) rfl
        have z1 := hb7.cell (i := 1) (v := .int .i64 0) rfl
        have z2 := hb7.cell (i := 2) (v := .int .i64 0) rfl
        have z3 := hb7.cell (i := 3) (v := .slice A3 n c3) rfl
        have hcw := hcC.seq hc7
        clear hv7 o1 o2 hs1 hs2 q1 hb7 HR HW hq
        go_wp2_with fail
        refine (HST.out w7 hc7).mono ?_
        rintro e w8 ⟨rfl, hcA⟩
        have hc8 := hc7.seq hcA
        have hcw8 := hcw.seq hcA
        have Q8 := Lib.hid (Q1.out.keep hcA)
        have R8 := Lib.hid (q2.out.keep hcA)
        have K8 := Lib.hid (HKR.out.keep hcA)
        clear hcA HST hc7 hcw Q1 q2 HKR z0 z1 z2 z3
        go_wp2_with fail
        refine (HSR.out w8 hcw8).mono ?_
        rintro e w9 ⟨rfl, hcA⟩
        have hc9 := hc8.seq hcA
        have hcw9 := hcw8.seq hcA
        have Q9 := Lib.hid (Q8.out.keep hcA)
        have R9 := Lib.hid (R8.out.keep hcA)
        have K9 := Lib.hid (K8.out.keep hcA)
        clear hcA HSR hc8 hcw8 Q8 R8 K8
        go_wp2_with fail
        refine (HRR.out w9 hcw9).mono ?_
        rintro e w10 ⟨v10, rfl, ho10, hcA⟩
        have hc10 := hc9.seq hcA
        have hcw10 := hcw9.seq hcA
        have R10 := Lib.hid (R9.out.keep hcA)
        have K10 := Lib.hid (K9.out.keep hcA)
        have HSM := Lib.hid (same_law05 w10 _ _ RR (Q9.out.keep hcA) ho10.opl)
        clear hcA HRR hc9 hcw9 Q9 R9 K9 ho10
        go_wp2_with fail
        refine HSM.out.mono ?_
        rintro e w11 ⟨rfl, hcA⟩
        have hc11 := hc10.seq hcA
        have hcw11 := hcw10.seq hcA
        have R11 := Lib.hid (R10.out.keep hcA)
        have K11 := Lib.hid (K10.out.keep hcA)
        clear hcA HSM hc10 hcw10 R10 K10
        go_wp2_with fail
        refine (HRW.out w11 hcw11).mono ?_
        rintro e w12 ⟨v12, rfl, ho12, hcA⟩
        have hc12 := hc11.seq hcA
        have hcw12 := hcw11.seq hcA
        have K12 := Lib.hid (K11.out.keep hcA)
        have HSM := Lib.hid (same_law05 w12 _ _ WW (R11.out.keep hcA) ho12.opl)
        clear hcA HRW hc11 hcw11 R11 K11 ho12
        go_wp2_with fail
        refine HSM.out.mono ?_
        rintro e w13 ⟨rfl, hcA⟩
        have hc13 := hc12.seq hcA
        have hcw13 := hcw12.seq hcA
        have K13 := Lib.hid (K12.out.keep hcA)
        clear hcA HSM hc12 hcw12 K12
        go_wp2_with fail
        go_loopw [48] (fun x wr => ∃ i : Nat, x = .int .i64 i ∧ i ≤ q ∧ Hid (KeyRow wr w5.heap.size A1 q) ∧ Ch nob w5 wr) (fun x _ => q - (intOf x).toNat)
        case atStart => exact ⟨0, rfl, Nat.zero_le _, K13, hc13⟩
        case round =>
          clear K13 hc13 hcw13
          obtain ⟨i, rfl, hi, hkr, hc⟩ := hrel
          by_cases hlt : i < q
          · have hd : decide ((i : Int) < (q : Int)) = true := decide_eq_true (by omega)
            obtain ⟨g, rfl, hgb, C, hC, hz⟩ := hkr.out (by omega)
            obtain ⟨z, hz1⟩ := hz i hlt
            have hx1 := hC.cell hz1
            have hfz := hC.free (i * 3 + 1)
            have hk2 : Hid (KeyRow (wr.setCell ⟨g, i * 3 + 1, none⟩ (.int .i64 (wrap64 (z + 1)))) w5.heap.size (some ⟨g, 0, none⟩) q) := Lib.hid (KeyRow.put hkr.out)
            have hc2 := hc.setCell ⟨g, i * 3 + 1, none⟩ (.int .i64 (wrap64 (z + 1))) (fun h => absurd h (by show ¬ g < _; omega))
            clear hz hz1 hC hkr hc
            go_wp2_with fail
            go_roundw
            case rel => exact ⟨i + 1, by go_num, by omega, hk2, hc2⟩
            case measure => simp [intOf]; omega
          · have hd : decide ((i : Int) < (q : Int)) = false := decide_eq_false (by omega)
            have hcx := hcC.seq hc
            have HE := Lib.hid (same_law05 wr _ _ xs (HO.out.keep hc) (HV.out.keep hcx))
            clear hkr hc
            go_wp2_with fail
            refine HE.out.mono ?_
            rintro e w14 ⟨rfl, hcA⟩
            have hend := hcx.seq hcA
            go_wp2_with fail
            go_ret
            exact ⟨rfl, hend.below⟩
end Go.Proofs.YtobfanodjdkkoaaDoor
