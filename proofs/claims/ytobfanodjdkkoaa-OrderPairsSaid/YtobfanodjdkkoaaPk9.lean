/- Texts of this claim, merged: OrdL. -/
import Derived.Test.YtobfanodjdkkoaaPk3
import Derived.Test.YtobfanodjdkkoaaPk5
import Derived.Test.YtobfanodjdkkoaaPk8
section
/- The law OrderPairs: who comes ahead of whom, who reads of whom, who writes to the same key. No condition but each theorem's own. -/
set_option linter.unusedVariables false
set_option linter.unusedSimpArgs false
namespace Go.Proofs.Ytobfanodjdkkoaa
open Go.RowKit Go.Maps

theorem quiet_load_rel {C : World → Prop} {o : Oper} {a : Act} {K : Act → Prop} (x : Operand) (ho : o.op = .load 51 x)
    (g off : Nat) (hx : a.eval x = .pointer (some ⟨g, off, none⟩)) (R : Nat → Nat) (hc : ∀ w, C w → w.rangeAt g off (relArr R).toList)
    (h : K (a.put o.dst (.agg (relArr R)))) : o.quiet Try.prog a C K :=
  ⟨_, fun w hw => by
    have hr := run_loadVar_mid (P := Try.prog) w g off 51 (relArr R).toList (.array 64 49) (hc w hw) (by kernel_rfl) rfl (by rw [rel_len]; kernel_rfl)
    rw [Array.toArray_toList] at hr
    unfold Oper.quietAt execOp
    simp only [ho, hx, Instr.loadAt, Instr.sureAddr, Sem.run_bind, Sem.run_pure, Result.andThen_ok, hr]
    exact ⟨rfl, rfl⟩, h⟩
theorem bne_self (b : Bool) : (b != b) = false := by cases b <;> rfl
theorem doc_ne {hs : List Txr} (h : bigB hs = true ∨ mayH hs = false) : (docH hs != 0) = true := by
  rcases h with h | h
  · rw [doc_big h]; rfl
  · cases hb : bigB hs with
    | true => rw [doc_big hb]; rfl
    | false => rw [doc_no hb h]; rfl
set_option maxRecDepth 100000 in
set_option maxHeartbeats 8000000 in
theorem law_orderpairs (w : World) (v : Value) (hs : List Txr) (hv : Txns w v hs) (hk : TxnsOk hs) (hL : LensOk hs) : Calls Try.prog 9 #[v] w fun e w' => e = .returned (.bool true) ∧ Below w.heap.size w w' := by
  obtain ⟨A, cp, rfl⟩ := hv.shape
  have HV := Lib.hid hv
  have HK := Lib.hid hk
  have HLN := Lib.hid hL
  obtain ⟨_, ⟨_, hlen⟩, _⟩ := hv.at
  obtain ⟨n, hn2⟩ : ∃ n, hs.length = n := ⟨_, rfl⟩
  have HN := Lib.hid hn2
  rw [hn2] at HV hlen ⊢
  clear hv hk hL hn2
  go_enter Try.func9, Try.ntmps9
  go_wp2_with fail
  refine (speaks08 _).mono ?_
  rintro e w1 ⟨rfl, hc1⟩
  go_wp2_with fail
  refine (big06 _ _ hs (HV.out.keep hc1) HLN.out).mono ?_
  rintro e w2 ⟨rfl, hc2⟩
  have hc3 := hc1.seq hc2
  clear hc1 hc2
  cases hb : bigN hs with
  | true =>
    rw [bigZ_yes hb]
    go_wp2_with fail
    go_ret
    exact ⟨rfl, hc3.below⟩
  | false =>
    rw [bigZ_no hb]
    have HC := Lib.hid (show countTo hs hs.length ≤ 1200 from (bigN_count hb).2)
    clear hb
    have HNO : ∀ z, docH hs = z → (z != 0) = true → ∀ u, Ch nob w u → Hid (Calls Try.prog 23 #[.slice A n cp] u (fun e w' => e = .returned (.tuple #[.pointer none, .int .i64 z]) ∧ Ch nob u w')) := fun z h1 h2 u hc => Lib.hid (of_none u _ hs z (HV.out.keep hc) HK.out (by have := HC.out; omega) h1 h2)
    have HCK : ∀ z, docH hs = z → ∀ u, Ch nob w u → Hid (Calls Try.prog 14 #[.slice A n cp] u (fun e w' => e = .returned (.int .i64 z) ∧ Ch nob u w')) := fun z h1 u hc => Lib.hid (by rw [← h1]; exact check_ref06 u _ hs (HV.out.keep hc) (by have := HC.out; omega))
    have HNO2 := Lib.hid HNO
    have HCK2 := Lib.hid HCK
    clear HNO HCK
    have BAD : ∀ d20 : decide ((20 : Int) < (n : Int)) = true, (decide ((n : Int) ≤ 64) = false → Hid ((docH hs != 0) = true)) := fun d20 d64 => Lib.hid (doc_ne (.inl (by
      unfold bigB
      rw [decide_eq_true (show 64 < hs.length by have := HN.out; have := of_decide_eq_false d64; omega)]; rfl)))
    have HBAD := Lib.hid BAD
    clear BAD
    cases d20 : decide ((20 : Int) < (n : Int)) with
    | true =>
      cases d64 : decide ((n : Int) ≤ 64) with
      | true =>
        go_wp2_with fail
        go_ret
        exact ⟨rfl, hc3.below⟩
      | false =>
        obtain ⟨z, hz⟩ : ∃ z, docH hs = z := ⟨_, rfl⟩
        have hne := (HBAD.out d20 d64).out
        rw [hz] at hne
        have H1 := HNO2.out z hz hne w2 hc3
        have HZ := Lib.hid hz
        clear hz
        go_wp2_with fail
        refine H1.out.mono ?_
        rintro e w3 ⟨rfl, hcA⟩
        have hc4 := hc3.seq hcA
        have H2 := HCK2.out z HZ.out w3 hc4
        clear H1 hcA hc3
        go_wp2_with fail
        refine H2.out.mono ?_
        rintro e w4 ⟨rfl, hcA⟩
        have hc5 := hc4.seq hcA
        have hzz : (z == z) = true := beq_self_eq_true z
        clear H2 hcA hc4
        go_wp2_with fail
        go_ret
        exact ⟨rfl, hc5.below⟩
    | false =>
      have hn20 : n ≤ 20 := by have := of_decide_eq_false d20; omega
      have hbB : bigB hs = false ∨ bigB hs = true := by cases bigB hs <;> simp
      cases hmy : mayH hs with
      | false =>
        obtain ⟨z, hz⟩ : ∃ z, docH hs = z := ⟨_, rfl⟩
        have hne := doc_ne (.inr hmy)
        rw [hz] at hne
        have H1 := HNO2.out z hz hne w2 hc3
        have HZ := Lib.hid hz
        clear hz hmy
        go_wp2_with fail
        refine H1.out.mono ?_
        rintro e w3 ⟨rfl, hcA⟩
        have hc4 := hc3.seq hcA
        have H2 := HCK2.out z HZ.out w3 hc4
        clear H1 hcA hc3
        go_wp2_with fail
        refine H2.out.mono ?_
        rintro e w4 ⟨rfl, hcA⟩
        have hc5 := hc4.seq hcA
        have hzz : (z == z) = true := beq_self_eq_true z
        clear H2 hcA hc4
        go_wp2_with fail
        go_ret
        exact ⟨rfl, hc5.below⟩
      | true =>
        rcases hbB with hbB | hbB
        · have H1 := Lib.hid (of_order w2 _ hs (HV.out.keep hc3) HK.out hmy hbB)
          have H22 := Lib.hid (HCK2.out 0 (doc_may hbB hmy))
          have HMY := Lib.hid hmy
          clear hmy hbB
          go_wp2_with fail
          refine H1.out.mono ?_
          rintro e w3 ⟨base, go, gm, c, A1, c1, A2, c2, KV, RV, M, rfl, hM, HO, hbs, hcA⟩
          rw [HN.out] at HO
          have hc4 := hc3.seq hcA
          have HM := Lib.hid hM
          have HOO := Lib.hid HO
          clear H1 hM HO hcA hbs hc3
          go_wp2_with fail
          refine (H22.out w3 hc4).out.mono ?_
          rintro e w4 ⟨rfl, hcA⟩
          have hc5 := hc4.seq hcA
          have ho4 := HOO.out.keep hcA
          have hx0 := ord_n ho4.blk
          have hnn : ((n : Int) != (n : Int)) = false := by simp
          have HRS := Lib.hid (fun (u : World) (hc : Ch nob w4 u) => rangeAt_keep (ord_session ho4.blk) hc)
          have HRT := Lib.hid (fun (u : World) (hc : Ch nob w4 u) => rangeAt_keep (ord_time ho4.blk) hc)
          have HRF := Lib.hid (fun (u : World) (hc : Ch nob w4 u) => rangeAt_keep (ord_from ho4.blk) hc)
          have hkk : ∀ i, i < n → kTo hs n 0 i = (wOf hs i).map Opn.key := fun i hi => by unfold kTo; rw [if_pos hi]
          have HRV := Lib.hid (fun (u : World) (i : Nat) (hi : i < n) (hc : Ch nob w4 u) => rivals_order (ho4.keep hc) (wF_ok hs n) i hi (by omega) (fun x hx => by
            rw [hkk i hi] at hx
            obtain ⟨y, hy, rfl⟩ := List.mem_map.1 hx
            exact (wOf_mem hy).1))
          have HRI := Lib.hid (fun (i k : Nat) (hi : i < n) (hk : k < n) => show hasS (rivO (wF hs n) (kTo hs n 0 i) (i : Int)) (k : Int) = rivB hs i k from by
            rw [hkk i hi]
            have := rivO_is (hs := hs) HMY.out (by rw [HN.out]; omega) (show i < hs.length by rw [HN.out]; exact hi) (show k < hs.length by rw [HN.out]; exact hk)
            rw [HN.out] at this; exact this)
          have HRL := Lib.hid (fun (i : Nat) => rivO_lt (wF_ok hs n) (kTo hs n 0 i) (i : Int))
          have HRO := Lib.hid (fun (u : World) (i : Int) (hc : Ch nob w4 u) (hi : i < 0 ∨ (n : Int) ≤ i) => rivals_out (n := (n : Int)) (cell_keep hx0 hc) hi)
          have HSI := Lib.hid (fun (i k : Nat) (hi : i < n) (hk : k < n) => pairs_bit (sesB hs) n i k hi hk (by omega))
          have HTI := Lib.hid (fun (i k : Nat) (hi : i < n) (hk : k < n) => pairs_bit (timeB hs) n i k hi hk (by omega))
          have HFI := Lib.hid (fun (i k : Nat) (hi : i < n) (hk : k < n) => show hasR (frAll M hs n) (i : Int) (k : Int) = fromB M hs i k from by
            rw [frAll_bit M hs i k (by omega) (by omega), decide_eq_true hk, Bool.true_and])
          have HSO := Lib.hid (pairsR_ok (sesB hs) n (by omega))
          have HTO := Lib.hid (pairsR_ok (timeB hs) n (by omega))
          have HFO := Lib.hid (frAll_ok M hs n)
          have HSA := Lib.hid (ses_acy hs n)
          have HTA := Lib.hid (show acyR (pairsR (timeB hs) n) = true from by have := time_acy HMY.out; rw [HN.out] at this; exact this)
          have HSW := Lib.hid (show withinR (pairsR (sesB hs) n) (pairsR (timeB hs) n) = true from by have := ses_within HMY.out; rw [HN.out] at this; exact this)
          have KSE := Lib.hid (fun (u : World) (i k : Nat) (hi : i < n) (hk : k < n) (hc : Ch nob w u) => session_ref08 u _ hs i k (HV.out.keep hc) (by rw [HN.out]; exact hi) (by rw [HN.out]; exact hk))
          have KTI := Lib.hid (fun (u : World) (i k : Nat) (hi : i < n) (hk : k < n) (hc : Ch nob w u) => time_ref08 u _ hs i k (HV.out.keep hc) (by rw [HN.out]; exact hi) (by rw [HN.out]; exact hk))
          have KFR := Lib.hid (fun (u : World) (i k : Nat) (hk : k < n) (hc : Ch nob w u) => from_ref08 u _ hs i k M (HV.out.keep hc) (by have := HC.out; omega) HMY.out HM.out (by rw [HN.out]; exact hk))
          have KRI := Lib.hid (fun (u : World) (i k : Nat) (hi : i < n) (hk : k < n) (hc : Ch nob w u) => rivals_ref08 u _ hs i k (HV.out.keep hc) (by rw [HN.out]; exact hi) (by rw [HN.out]; exact hk) (fun a ha => by have := may_len HMY.out ha; omega))
          clear hcA HOO ho4 hkk
          obtain ⟨S, hS⟩ : ∃ S, pairsR (sesB hs) n = S := ⟨_, rfl⟩
          obtain ⟨T, hT⟩ : ∃ T, pairsR (timeB hs) n = T := ⟨_, rfl⟩
          obtain ⟨F, hF⟩ : ∃ F, frAll M hs n = F := ⟨_, rfl⟩
          obtain ⟨R, hR⟩ : ∃ R : Nat → Nat, (fun i : Nat => rivO (wF hs n) (kTo hs n 0 i) (i : Int)) = R := ⟨_, rfl⟩
          have hR2 := fun i => congrFun hR i
          have hR3 := hR2
          simp only [hR3] at HRV HRI HRL
          rw [hS] at HRS HSI HSO HSA HSW
          rw [hT] at HRT HTI HTO HTA HSW
          rw [hF] at HRF HFI HFO
          clear hS hT hF hR hR2 hR3
          go_wp2_with fail
          go_loopw [56] (fun x wr => ∃ i : Nat, x = .int .i64 i ∧ i ≤ n ∧ Ch nob w4 wr) (fun x _ => n - (intOf x).toNat)
          case atStart => exact ⟨0, rfl, Nat.zero_le _, Ch.refl _ _⟩
          case round =>
            obtain ⟨i, rfl, hi, hc⟩ := hrel
            by_cases hlt : i < n
            · have hd : decide ((i : Int) < (n : Int)) = true := decide_eq_true (by omega)
              go_wp2_with fail
              go_loopw [61] (fun x wr => ∃ k : Nat, x = .int .i64 k ∧ k ≤ n ∧ Ch nob w4 wr) (fun x _ => n - (intOf x).toNat)
              case atStart => exact ⟨0, rfl, Nat.zero_le _, hc⟩
              case round =>
                clear hc
                obtain ⟨k, rfl, hk, hc⟩ := hrel
                by_cases hlt2 : k < n
                · have hd2 : decide ((k : Int) < (n : Int)) = true := decide_eq_true (by omega)
                  by_cases hik : i = k
                  · subst hik
                    have hee : ((i : Int) == (i : Int)) = true := beq_self_eq_true _
                    have c1 := Lib.hid (has_rel S HSO.out i i wr)
                    rw [HSI.out i i hlt hlt, show (i != i) = false from by simp, Bool.false_and] at c1
                    have c2 := Lib.hid (fun u => has_rel T HTO.out i i u)
                    rw [HTI.out i i hlt hlt, show (i != i) = false from by simp, Bool.false_and] at c2
                    have c3 := Lib.hid (fun u => has_rel F HFO.out i i u)
                    rw [HFI.out i i hlt hlt, fromB_self] at c3
                    have c4 := Lib.hid (fun u => has_set (R i) i u (HRL.out i))
                    rw [HRI.out i i hlt hlt, rivB_self] at c4
                    go_wp2_with (refine wpList_load_relG rfl (.tmp 69) rfl go 1 rfl _ (HRS.out _ hc) ?_)
                    refine c1.out.mono ?_
                    rintro e w6 ⟨rfl, hcA⟩
                    have hc6 := hc.seq hcA
                    clear hcA hc c1
                    go_wp2_with (refine wpList_load_relG rfl (.tmp 77) rfl go 65 rfl _ (HRT.out _ hc6) ?_)
                    refine (c2.out _).mono ?_
                    rintro e w7 ⟨rfl, hcA⟩
                    have hc7 := hc6.seq hcA
                    clear hcA hc6 c2
                    go_wp2_with (refine wpList_load_relG rfl (.tmp 86) rfl go 129 rfl _ (HRF.out _ hc7) ?_)
                    refine (c3.out _).mono ?_
                    rintro e w8 ⟨rfl, hcA⟩
                    have hc8 := hc7.seq hcA
                    clear hcA hc7 c3
                    go_wp2_with fail
                    refine (HRV.out _ i hlt hc8).mono ?_
                    rintro e w9 ⟨rfl, hcA⟩
                    have hc9 := hc8.seq hcA
                    clear hcA hc8
                    go_wp2_with fail
                    refine (c4.out _).mono ?_
                    rintro e w10 ⟨rfl, rfl⟩
                    clear c4
                    go_wp2_with fail
                    go_roundw
                    case rel => exact ⟨i + 1, by go_num, by omega, hc9⟩
                    case measure => simp [intOf]; omega
                  · have hee : ((i : Int) == (k : Int)) = false := by rw [beq_eq_false_iff_ne]; omega
                    have hne : (i != k) = true := by simp [hik]
                    have c1 := Lib.hid (has_rel S HSO.out i k wr)
                    rw [HSI.out i k hlt hlt2, hne, Bool.true_and] at c1
                    have c2 := Lib.hid (fun u => has_rel T HTO.out i k u)
                    rw [HTI.out i k hlt hlt2, hne, Bool.true_and] at c2
                    have c3 := Lib.hid (fun u => has_rel F HFO.out i k u)
                    rw [HFI.out i k hlt hlt2] at c3
                    have c4 := Lib.hid (fun u => has_set (R i) k u (HRL.out i))
                    rw [HRI.out i k hlt hlt2] at c4
                    have k1 := Lib.hid (fun u hc => KSE.out u i k hlt hlt2 hc)
                    have k2 := Lib.hid (fun u hc => KTI.out u i k hlt hlt2 hc)
                    have k3 := Lib.hid (fun u hc => KFR.out u i k hlt2 hc)
                    have k4 := Lib.hid (fun u hc => KRI.out u i k hlt hlt2 hc)
                    obtain ⟨b1, hb1⟩ : ∃ b, sesB hs i k = b := ⟨_, rfl⟩
                    obtain ⟨b2, hb2⟩ : ∃ b, timeB hs i k = b := ⟨_, rfl⟩
                    obtain ⟨b3, hb3⟩ : ∃ b, fromB M hs i k = b := ⟨_, rfl⟩
                    obtain ⟨b4, hb4⟩ : ∃ b, rivB hs i k = b := ⟨_, rfl⟩
                    rw [hb1] at c1 k1
                    rw [hb2] at c2 k2
                    rw [hb3] at c3 k3
                    rw [hb4] at c4 k4
                    have e1 := bne_self b1
                    have e2 := bne_self b2
                    have e3 := bne_self b3
                    have e4 := bne_self b4
                    clear hb1 hb2 hb3 hb4 hne
                    go_wp2_with (refine wpList_load_relG rfl (.tmp 101) rfl go 1 rfl _ (HRS.out _ hc) ?_)
                    refine c1.out.mono ?_
                    rintro e w6 ⟨rfl, hcA⟩
                    have hc6 := hc.seq hcA
                    clear hcA hc c1
                    go_wp2_with fail
                    refine (k1.out _ (hc5.seq hc6)).mono ?_
                    rintro e w7 ⟨rfl, hcA⟩
                    have hc7 := hc6.seq hcA
                    clear hcA hc6 k1
                    go_wp2_with (refine wpList_load_relG rfl (.tmp 114) rfl go 65 rfl _ (HRT.out _ hc7) ?_)
                    refine (c2.out _).mono ?_
                    rintro e w8 ⟨rfl, hcA⟩
                    have hc8 := hc7.seq hcA
                    clear hcA hc7 c2
                    go_wp2_with fail
                    refine (k2.out _ (hc5.seq hc8)).mono ?_
                    rintro e w9 ⟨rfl, hcA⟩
                    have hc9 := hc8.seq hcA
                    clear hcA hc8 k2
                    go_wp2_with (refine wpList_load_relG rfl (.tmp 128) rfl go 129 rfl _ (HRF.out _ hc9) ?_)
                    refine (c3.out _).mono ?_
                    rintro e w10 ⟨rfl, hcA⟩
                    have hc10 := hc9.seq hcA
                    clear hcA hc9 c3
                    go_wp2_with fail
                    refine (k3.out _ (hc5.seq hc10)).mono ?_
                    rintro e w11 ⟨rfl, hcA⟩
                    have hc11 := hc10.seq hcA
                    clear hcA hc10 k3
                    go_wp2_with fail
                    refine (HRV.out _ i hlt hc11).mono ?_
                    rintro e w12 ⟨rfl, hcA⟩
                    have hc12 := hc11.seq hcA
                    clear hcA hc11
                    go_wp2_with fail
                    refine (c4.out _).mono ?_
                    rintro e w13 ⟨rfl, rfl⟩
                    clear c4
                    go_wp2_with fail
                    refine (k4.out _ (hc5.seq hc12)).mono ?_
                    rintro e w14 ⟨rfl, hcA⟩
                    have hc14 := hc12.seq hcA
                    clear hcA hc12 k4
                    go_wp2_with fail
                    go_roundw
                    case rel => exact ⟨k + 1, by go_num, by omega, hc14⟩
                    case measure => simp [intOf]; omega
                · have hd2 : decide ((k : Int) < (n : Int)) = false := decide_eq_false (by omega)
                  go_wp2_with fail
                  go_roundw
                  case rel => exact ⟨i + 1, by go_num, by omega, hc⟩
                  case measure => simp [intOf]; omega
            · have hd : decide ((i : Int) < (n : Int)) = false := decide_eq_false (by omega)
              have c1 := Lib.hid (fun (u : Ext wr) => ext_of (HRO.out u.val (-1) (hc.seq u.ch) (.inl (by omega))))
              have c2 := Lib.hid (fun (u : Ext wr) => ext_of (HRO.out u.val (n : Int) (hc.seq u.ch) (.inr (by omega))))
              have c3 := Lib.hid (fun (u : Ext wr) => ext_of (acyclic_rel S HSO.out u.val))
              have c4 := Lib.hid (fun (u : Ext wr) => ext_of (acyclic_rel T HTO.out u.val))
              have c5 := Lib.hid (fun (u : Ext wr) => ext_of (within_rel S T HSO.out HTO.out u.val))
              rw [HSA.out] at c3
              rw [HTA.out] at c4
              rw [HSW.out] at c5
              have HR1 := Lib.hid (fun (u : World) (h : ∃ m : Ext wr, u = m.val) => show u.rangeAt go 1 (relArr S).toList from by obtain ⟨m, rfl⟩ := h; exact HRS.out _ (hc.seq m.ch))
              have HR2 := Lib.hid (fun (u : World) (h : ∃ m : Ext wr, u = m.val) => show u.rangeAt go 65 (relArr T).toList from by obtain ⟨m, rfl⟩ := h; exact HRT.out _ (hc.seq m.ch))
              go_wp2_with fail
              refine wp_region_ch (w0 := wr) (by kernel_rfl) (by kernel_rfl) (Ch.refl _ _) ?_
              repeat (first
                | (go_big_quiet_want; refine quiet_load_rel (.tmp 166) rfl go 1 rfl S HR1.out ?_; simp only [Act.put, List.setIfInBounds_toArray, List.set_cons_succ, List.set_cons_zero]; go_big_quiet_on)
                | (go_big_quiet_want; refine quiet_load_rel (.tmp 173) rfl go 65 rfl T HR2.out ?_; simp only [Act.put, List.setIfInBounds_toArray, List.set_cons_succ, List.set_cons_zero]; go_big_quiet_on)
                | (go_big_quiet_want; refine quiet_load_rel (.tmp 180) rfl go 1 rfl S HR1.out ?_; simp only [Act.put, List.setIfInBounds_toArray, List.set_cons_succ, List.set_cons_zero]; go_big_quiet_on)
                | (go_big_quiet_want; refine quiet_load_rel (.tmp 184) rfl go 65 rfl T HR2.out ?_; simp only [Act.put, List.setIfInBounds_toArray, List.set_cons_succ, List.set_cons_zero]; go_big_quiet_on)
                | go_big_quiet_step (first | (go_at_call_of 33 (Value.int .i64 (n : Int)); exact c2.out _) | (go_at_call 33; exact c1.out _) | (go_at_call_of 37 (Value.agg (relArr S)); exact c3.out _) | (go_at_call_of 37 (Value.agg (relArr T)); exact c4.out _) | (go_at_call 38; exact c5.out _)))
              refine wpQuiet_nil ?_
              rintro wq ⟨⟨_, hcq⟩, rfl⟩
              have hend := (hc5.seq hc).seq hcq
              go_wp2_with fail
              go_ret
              exact ⟨rfl, hend.below⟩
        · obtain ⟨z, hz⟩ : ∃ z, docH hs = z := ⟨_, rfl⟩
          have hne := doc_ne (hs := hs) (.inl hbB)
          rw [hz] at hne
          have H1 := HNO2.out z hz hne w2 hc3
          have HZ := Lib.hid hz
          clear hz hmy hbB
          go_wp2_with fail
          refine H1.out.mono ?_
          rintro e w3 ⟨rfl, hcA⟩
          have hc4 := hc3.seq hcA
          have H2 := HCK2.out z HZ.out w3 hc4
          clear H1 hcA hc3
          go_wp2_with fail
          refine H2.out.mono ?_
          rintro e w4 ⟨rfl, hcA⟩
          have hc5 := hc4.seq hcA
          have hzz : (z == z) = true := beq_self_eq_true z
          clear H2 hcA hc4
          go_wp2_with fail
          go_ret
          exact ⟨rfl, hc5.below⟩
end Go.Proofs.Ytobfanodjdkkoaa
end
