/- Texts of this claim, merged: OrdY. -/
import Derived.Test.YtobfanodjdkkoaaPk3
import Derived.Test.YtobfanodjdkkoaaPk4
import Derived.Test.YtobfanodjdkkoaaPk5
import Derived.Test.YtobfanodjdkkoaaPk8
section
/- The law OrderOwn: nothing that is handed in is changed, nor kept. No condition but each theorem's own. -/
set_option linter.unusedVariables false
set_option linter.unusedSimpArgs false
namespace Go.Proofs.Ytobfanodjdkkoaa
open Go.RowKit Go.Maps

theorem bne_self2 (b : Bool) : (b != b) = false := by cases b <;> rfl
theorem doc_zero {hs : List Txr} (h : docH hs = 0) : bigB hs = false ∧ mayH hs = true := by
  cases hb : bigB hs with
  | true => rw [doc_big hb] at h; cases h
  | false =>
    cases hm : mayH hs with
    | true => exact ⟨rfl, rfl⟩
    | false => rw [doc_no hb hm] at h; cases h
def RestV (w : World) (base B : Nat) (A : Option Addr) (hs : List Txr) (U : Nat → Value) (n i : Nat) : Prop := i < n → ∃ g, A = some ⟨g, 0, none⟩ ∧ Rest w base B g hs U n i
theorem OwnT.restV {w : World} {base B n : Nat} {v : Value} {hs : List Txr} {U : Nat → Value} (h : OwnT w base v hs U n) (hB : w.heap.size ≤ B) : ∃ A c, v = .slice A n c ∧ RestV w base B A hs U n 0 := by
  rcases h.row.2 with ⟨hv, hn⟩ | ⟨g, cap, cur, hv, _⟩
  · exact ⟨none, 0, by rw [hv, hn], fun h => by omega⟩
  · subst hv
    exact ⟨_, _, rfl, fun _ => ⟨g, rfl, h.rest hB⟩⟩
theorem may_ops1 {hs : List Txr} (h : mayH hs = true) {i : Nat} (hi : i < hs.length) : 1 ≤ (hs.getD i txrZero).ops.length := by
  have h1 := all_iff.1 ((may_iff hs).1 h).1 i hi
  unfold txrOkB txnOk at h1
  rw [Bool.and_eq_true] at h1
  have h3 := h1.1
  unfold headOk at h3
  simp only [Bool.and_eq_true, decide_eq_true_eq] at h3
  exact h3.1.2
theorem own_some {w : World} {base e : Nat} {v : Value} {xs : List Opn} (h : OwnO w base e v xs) (h1 : 1 ≤ xs.length) : ∃ g c, v = .slice (some ⟨g, 0, none⟩) xs.length c := by
  rcases h.2 with ⟨_, hn⟩ | ⟨g, cap, cur, hv, _⟩
  · omega
  · exact ⟨g, cap, hv⟩
theorem own_blk {w : World} {base e g l c : Nat} {xs : List Opn} (h : OwnO w base e (.slice (some ⟨g, 0, none⟩) l c) xs) : ∃ C, Blk w g C e := by
  rcases h.2 with ⟨hv, _⟩ | ⟨g2, cap, cur, hv, hb, hg, _⟩
  · cases hv
  · have e2 : g2 = g := by simp at hv; exact hv.1.symm
    subst e2
    exact ⟨cur, hg⟩
set_option maxRecDepth 100000 in
set_option maxHeartbeats 8000000 in
theorem law_orderown (w : World) (v : Value) (hs : List Txr) (hv : Txns w v hs) (hk : TxnsOk hs) (hL : LensOk hs) : Calls Try.prog 7 #[v] w fun e w' => e = .returned (.bool true) ∧ Below w.heap.size w w' := by
  obtain ⟨A, cp, rfl⟩ := hv.shape
  have HV := Lib.hid hv
  have HK := Lib.hid hk
  have HLN := Lib.hid hL
  obtain ⟨_, ⟨_, hlen⟩, _⟩ := hv.at
  obtain ⟨n, hn2⟩ : ∃ n, hs.length = n := ⟨_, rfl⟩
  have HN := Lib.hid hn2
  rw [hn2] at HV hlen ⊢
  clear hv hk hL hn2
  go_enter Try.func7, Try.ntmps7
  go_wp2_with fail
  refine (speaks08 _).mono ?_
  rintro e w1 ⟨rfl, hc1⟩
  go_wp2_with fail
  refine (big06 _ _ hs (HV.out.keep hc1) HLN.out).mono ?_
  rintro e w2 ⟨rfl, hc2⟩
  have hc3 := hc1.seq hc2
  clear hc1 hc2
  cases hb : bigN hs with
  | true =>
    rw [bigZ_yes hb]
    go_wp2_with fail
    go_ret
    exact ⟨rfl, hc3.below⟩
  | false =>
    rw [bigZ_no hb]
    have HC := Lib.hid (show countTo hs hs.length ≤ 1200 from (bigN_count hb).2)
    clear hb
    have H2 := check_ref06 w2 (.slice A n cp) hs (HV.out.keep hc3) (by have := HC.out; omega)
    obtain ⟨z, hz⟩ : ∃ z, docH hs = z := ⟨_, rfl⟩
    rw [hz] at H2
    have HZ := Lib.hid hz
    have H22 := Lib.hid H2
    clear hz H2
    cases hne : (z != 0) with
    | true =>
      go_wp2_with fail
      refine H22.out.mono ?_
      rintro e w3 ⟨rfl, hcA⟩
      have hc4 := hc3.seq hcA
      clear H22 hcA hc3
      go_wp2_with fail
      go_ret
      exact ⟨rfl, hc4.below⟩
    | false =>
      have hz0 : z = 0 := by simpa using hne
      have HD := Lib.hid (doc_zero (HZ.out.trans hz0))
      clear hz0
      cases d20 : decide ((20 : Int) < (n : Int)) with
      | true =>
        go_wp2_with fail
        refine H22.out.mono ?_
        rintro e w3 ⟨rfl, hcA⟩
        have hc4 := hc3.seq hcA
        clear H22 hcA hc3
        go_wp2_with fail
        go_ret
        exact ⟨rfl, hc4.below⟩
      | false =>
        have hn20 : n ≤ 20 := by have := of_decide_eq_false d20; omega
        go_wp2_with fail
        refine H22.out.mono ?_
        rintro e w4 ⟨rfl, hcA⟩
        have hc4 := hc3.seq hcA
        have HO0 := Lib.hid (show OwnT w4 w4.heap.size (.slice none 0 0) hs (fun _ => undef) 0 from ⟨World.ownsRow_nil _ _ _ _, fun j hj => by omega, fun i j hi => by omega⟩)
        clear H22 hcA hc3
        go_wp2_with fail
        go_loopw [28, 3] (fun x y wr => ∃ (i : Nat) (U : Nat → Value), x = .int .i64 i ∧ i ≤ n ∧ Hid (OwnT wr w4.heap.size y hs U i) ∧ Ch nob w4 wr) (fun x _ _ => n - (intOf x).toNat)
        case atStart => exact ⟨0, _, rfl, Nat.zero_le _, HO0, Ch.refl _ _⟩
        case round =>
          clear HO0
          obtain ⟨i, U, rfl, hi, ho, hc⟩ := hrel
          by_cases hlt : i < n
          · have hd : decide ((i : Int) < (n : Int)) = true := decide_eq_true (by omega)
            have HI := Lib.hid (show i < hs.length from by rw [HN.out]; exact hlt)
            obtain ⟨ad, u, rfl, hx0, hx1, hx2, hx3, hu⟩ := HV.out.both (hc4.seq hc) i HI.out
            have hxl := may_len HD.out.2 HI.out
            obtain ⟨T, hT⟩ : ∃ T, hs.getD i txrZero = T := ⟨_, rfl⟩
            rw [hT] at hx0 hx1 hx2 hu hxl
            have HX := Lib.hid hT
            obtain ⟨ts, tb, tc, xs⟩ := T
            dsimp only at hx0 hx1 hx2 hu hxl
            obtain ⟨A2, c2, rfl⟩ := hu.shape
            have hxl2 : xs.length ≤ 1000000 := by omega
            have hcA : Ch nob wr (wr.alloc (.cells #[.int .i64 ts, .int .i64 tb, .int .i64 tc, .slice A2 xs.length c2] 33)) := (Ch.refl _ _).alloc _
            have hcB := hcA.alloc (.cells #[] 35)
            have hu1 := (hu.keep (hc4.seq hc)).keep hcB
            have hb1 := Lib.hid ((Blk.new wr #[.int .i64 ts, .int .i64 tb, .int .i64 tc, .slice A2 xs.length c2] 33).alloc (.cells #[] 35))
            have hp30 := hb1.out.cell (i := 3) (v := .slice A2 xs.length c2) rfl
            have hmd := OwnO.made (wr.alloc (.cells #[.int .i64 ts, .int .i64 tb, .int .i64 tc, .slice A2 xs.length c2] 33)) (wr.heap.size + 1) 35 (by simp)
            have hmd2 : OwnO ((wr.alloc (.cells #[.int .i64 ts, .int .i64 tb, .int .i64 tc, .slice A2 xs.length c2] 33)).alloc (.cells #[] 35)) (wr.heap.size + 1) 35 (.slice (some ⟨wr.heap.size + 1, 0, none⟩) 0 0) [] := by simpa using hmd
            have HMD := Lib.hid hmd2
            clear hT hu hmd hmd2
            have hio := Lib.hid (show i ≤ 1000000 by omega)
            go_wp2_with (first
              | (at_builtin; refine wpList_append_opl rfl (.tmp 32) (.tmp 34) 31 35 rfl elem_op (wr.heap.size + 1) _ [] rfl HMD.out _ xs rfl hu1 (by simp) hxl2 (by simp) ?_; intro v3 w3 hown3 hg3; obtain ⟨A3, c3, hv3⟩ := (show ∃ A c, v3 = .slice A xs.length c from hown3.opl.shape); subst hv3; have hb3 := hb1.out.grown hg3 (fun e => Nat.succ_ne_self _ (Option.some.inj (show some (wr.heap.size + 1) = some wr.heap.size from e))); have hc3 : Ch nob wr w3 := hcB.grown_own hg3 (fun b hb => Nat.le_of_succ_le (OwnO.ge HMD.out b hb).1); have hp3 := hb3.cell (i := 3) (v := .slice A2 xs.length c2) rfl; have hfr := hb3.free 3; have hb4 := hb3.set 3 (.slice A3 xs.length c3); have hs4 : Ch (· = wr.heap.size) w3 (w3.setCell ⟨wr.heap.size, 3, none⟩ (.slice A3 xs.length c3)) := (Ch.refl _ _).setCell _ _ (fun _ => rfl); have hc4b := (hc3.fresh hs4 (Nat.le_refl _)).alloc (.cells #[.int .i64 ts, .int .i64 tb, .int .i64 tc, .slice A3 xs.length c3] 33); have ho5 := Lib.hid (ho.out.keep hc4b); have hown5 := Lib.hid (((show OwnO w3 (wr.heap.size + 1) 35 (.slice A3 xs.length c3) xs from hown3).off hs4 (fun b hb => by have := (OwnO.ge hown3 b hb).1; omega)).alloc (.cells #[.int .i64 ts, .int .i64 tb, .int .i64 tc, .slice A3 xs.length c3] 33)); have hnb := Lib.hid (Blk.new (w3.setCell ⟨wr.heap.size, 3, none⟩ (.slice A3 xs.length c3)) #[.int .i64 ts, .int .i64 tb, .int .i64 tc, .slice A3 xs.length c3] 33))
              | (refine wpList_load_row rfl 33 (.tmp 5) rfl wr.heap.size rfl 33 #[.int .i64 ts, .int .i64 tb, .int .i64 tc, .slice A3 xs.length c3] (0, 0) _ hb4 rfl rfl (by kernel_rfl) ?_)
              | (at_builtin; refine wpList_append_txn rfl (.tmp 37) (.tmp 39) rfl w4.heap.size _ i _ rfl ho5.out.row _ ts tb tc A3 xs.length c3 33 rfl (by simpa using hnb.out) hio.out (Nat.le_trans hc.size hc4b.size) ?_; intro v6 w6 hrow6 hg6; have ho6 := ho5.out.snoc HX.out hown5.out (fun j hj b hb => by have := ((ho.out.ops j hj).ge b hb).2; omega) (Nat.le_trans hc.size (Nat.le_succ _)) hrow6 hg6; have hc6 := (hc.seq hc4b).grown_own hg6 (fun b hb => (ho5.out.row.lt b hb).1)))
            exact ⟨⟨i + 1, _, by go_num, by omega, Lib.hid ho6, hc6⟩, by simp [intOf]; omega⟩
          · have hd : decide ((i : Int) < (n : Int)) = false := decide_eq_false (by omega)
            obtain rfl : i = n := by omega
            have ho2 := ho.out
            have hts0 : ∀ y, OwnT wr w4.heap.size y hs U i → Txns wr y hs := fun y h => OwnT.txns (by rw [HN.out]; exact h)
            have hts := hts0 _ ho2
            have H1 := Lib.hid (of_order wr _ hs hts HK.out HD.out.2 HD.out.1)
            obtain ⟨B, hB⟩ : ∃ B, wr.heap.size = B := ⟨_, rfl⟩
            obtain ⟨Ay, cy, hy, hrv⟩ := ho2.restV (B := B) (by omega)
            subst hy
            have HRV := Lib.hid hrv
            have hcw := hc4.seq hc
            clear ho2 hts hts0 hrv hc ho
            go_wp2_with fail
            refine H1.out.mono ?_
            rintro e w6 ⟨base, go, gm, c, A1, c1, A2, c2, KV, RV, M, rfl, hM, HO, hbs, hcA⟩
            rw [HN.out] at HO
            have HM := Lib.hid hM
            have hgo : B ≤ go := by have := HO.ge.1; omega
            have HRF := Lib.hid (ord_from HO.blk)
            have HFI := Lib.hid (fun (a k : Nat) (ha : a < i) (hk : k < i) => show hasR (frAll M hs i) (a : Int) (k : Int) = fromB M hs a k from by
              rw [frAll_bit M hs a k (by omega) (by omega), decide_eq_true hk, Bool.true_and])
            have HFO := Lib.hid (frAll_ok M hs i)
            obtain ⟨F, hF⟩ : ∃ F, frAll M hs i = F := ⟨_, rfl⟩
            rw [hF] at HRF HFI HFO
            have HRV6 := Lib.hid (show RestV w6 w4.heap.size B Ay hs U i 0 from fun h => by
              obtain ⟨g, h1, h2⟩ := HRV.out h
              exact ⟨g, h1, h2.keep hcA⟩)
            have hc6 := hcw.seq hcA
            have hww : w.heap.size ≤ w4.heap.size := hc4.size
            obtain ⟨b4, hb4⟩ : ∃ b, w4.heap.size = b := ⟨_, rfl⟩
            rw [hb4] at HRV6 hww
            clear hM HO hbs hcA H1 HRV hF hcw hB hc4 hb4
            go_wp2_with fail
            go_loopw [55] (fun x wr => ∃ k : Nat, x = .int .i64 k ∧ k ≤ i ∧ Hid (RestV wr b4 B Ay hs U i k) ∧ Hid (wr.rangeAt go 129 (relArr F).toList) ∧ Ch nob w wr) (fun x _ => i - (intOf x).toNat)
            case atStart => exact ⟨0, rfl, Nat.zero_le _, HRV6, HRF, hc6⟩
            case round =>
              clear HRV6 HRF hc6
              obtain ⟨k, rfl, hk, hrv, hrf, hc⟩ := hrel
              by_cases hlt2 : k < i
              · have hd2 : decide ((k : Int) < (i : Int)) = true := decide_eq_true (by omega)
                have HI := Lib.hid (show k < hs.length from by rw [HN.out]; exact hlt2)
                obtain ⟨g, rfl, hR⟩ := hrv.out hlt2
                obtain ⟨ad, u, rfl, hx0, hx1, hx2, hx3, hu⟩ := HV.out.both hc k HI.out
                have hu' := hu.keep hc
                obtain ⟨hq0, hq1, hq2, hq3⟩ := hR.cells k (Nat.le_refl _) hlt2
                have hop := hR.ops k (Nat.le_refl _) hlt2
                obtain ⟨gu, cu, hU⟩ := own_some hop (may_ops1 HD.out.2 HI.out)
                rw [hU] at hop hq3
                obtain ⟨C, hC⟩ := hR.blk
                obtain ⟨C2, hC2⟩ := own_blk hop
                have hfz1 := hC.free (k * 4)
                have hfz2 := hC2.free 1
                have hne : g ≠ gu := fun e => hR.ne (Nat.le_refl _) hlt2 (by rw [hU, e]; rfl)
                have hgB := hR.gge
                have huB := hR.below k (Nat.le_refl _) hlt2 gu (by rw [hU]; rfl)
                have huG := (hop.ge gu rfl).1
                have HRK := Lib.hid hR
                have HUU := Lib.hid hU
                have hl1 := may_ops1 HD.out.2 HI.out
                obtain ⟨T, hT⟩ : ∃ T, hs.getD k txrZero = T := ⟨_, rfl⟩
                rw [hT] at hx0 hx1 hx2 hu' hq0 hq1 hq2 hop hl1
                rw [hT] at hq3
                obtain ⟨ts, tb, tc, xs⟩ := T
                dsimp only at hx0 hx1 hx2 hu' hq0 hq1 hq2 hq3 hop hl1
                obtain ⟨A2, c2, rfl⟩ := hu'.shape
                have hfi := flatO_at xs 0 (by omega)
                have hk1 : wr.cell? ⟨gu, 1, none⟩ = some (.int .i64 (xs.getD 0 opZero).key) := (World.ownsRow.cellAt hop 1 (by omega)).trans hfi.2.1
                obtain ⟨xk, hxk⟩ : ∃ x, (xs.getD 0 opZero).key = x := ⟨_, rfl⟩
                rw [hxk] at hk1
                have hsm := fun (q : Ext wr) => ext_of (same_txn q.val ⟨ts, tb, tc, xs⟩ _ _ (hop.opl.keep q.ch) (hu'.keep q.ch))
                dsimp only at hsm
                obtain ⟨l, hl⟩ : ∃ l, xs.length = l := ⟨_, rfl⟩
                rw [hl] at hq3 hx3 hsm hl1
                have hl0 : (0 : Int) < (l : Int) := by omega
                have HS := Lib.hid hsm
                have X0 := fun q : Ext wr => Ext.cell hx0 q
                have X1 := fun q : Ext wr => Ext.cell hx1 q
                have X2 := fun q : Ext wr => Ext.cell hx2 q
                have X3 := fun q : Ext wr => Ext.cell hx3 q
                have X4 := fun q : Ext wr => Ext.cell hq0 q
                have X5 := fun q : Ext wr => Ext.cell hq1 q
                have X6 := fun q : Ext wr => Ext.cell hq2 q
                have X7 := fun q : Ext wr => Ext.cell hq3 q
                clear hfi hxk hsm hT hu hu' hU hR hl hop
                go_wp2_with fail
                refine wp_region_ch (w0 := wr) (by kernel_rfl) (by kernel_rfl) (Ch.refl _ _) ?_
                repeat go_big_quiet_step (exact HS.out _)
                refine wpQuiet_nil ?_
                rintro wq ⟨⟨_, hcq⟩, rfl⟩
                have HR2 := Lib.hid (HRK.out.keep hcq)
                have hz0 := cell_keep hq0 hcq
                have hz3 := cell_keep hq3 hcq
                have hzk := cell_keep hk1 hcq
                have hf1 := (hC.ch hcq (fun h => h)).free (k * 4)
                have hf2 := (hC2.ch hcq (fun h => h)).free 1
                have hrf2 := Lib.hid (rangeAt_keep hrf.out hcq)
                have hcc := hc.seq hcq
                clear X0 X1 X2 X3 X4 X5 X6 X7 HS hx0 hx1 hx2 hx3 hq0 hq1 hq2 hq3 hk1 hfz1 hfz2 hC hC2 hrf hrv hc hcq HRK
                go_wp2_with fail
                go_roundw
                case rel => exact ⟨k + 1, by go_num, by omega, Lib.hid (fun h => ⟨g, rfl, Rest.next HR2.out hlt2 HUU.out⟩), Lib.hid (rangeAt_off (g := gu) (rangeAt_off (g := g) hrf2.out ((Ch.refl _ _).setCell _ _ (fun _ => rfl)) (by omega)) ((Ch.refl _ _).setCell _ _ (fun _ => rfl)) (by omega)), (hcc.setCell _ _ (fun h => absurd h (by show ¬ g < _; omega))).setCell _ _ (fun h => absurd h (by show ¬ gu < _; omega))⟩
                case measure => simp [intOf]; omega
              · have hd2 : decide ((k : Int) < (i : Int)) = false := decide_eq_false (by omega)
                obtain rfl : k = i := by omega
                go_wp2_with fail
                go_loopw [89] (fun x wr => ∃ a : Nat, x = .int .i64 a ∧ a ≤ k ∧ Hid (wr.rangeAt go 129 (relArr F).toList) ∧ Ch nob w wr) (fun x _ => k - (intOf x).toNat)
                case atStart => exact ⟨0, rfl, Nat.zero_le _, hrf, hc⟩
                case round =>
                  clear hrf hc
                  obtain ⟨a, rfl, ha, hrf, hc⟩ := hrel
                  by_cases hlta : a < k
                  · have hda : decide ((a : Int) < (k : Int)) = true := decide_eq_true (by omega)
                    go_wp2_with fail
                    go_loopw [94] (fun x wr => ∃ b : Nat, x = .int .i64 b ∧ b ≤ k ∧ Hid (wr.rangeAt go 129 (relArr F).toList) ∧ Ch nob w wr) (fun x _ => k - (intOf x).toNat)
                    case atStart => exact ⟨0, rfl, Nat.zero_le _, hrf, hc⟩
                    case round =>
                      clear hrf hc
                      obtain ⟨b, rfl, hb, hrf, hc⟩ := hrel
                      by_cases hltb : b < k
                      · have hdb : decide ((b : Int) < (k : Int)) = true := decide_eq_true (by omega)
                        by_cases hab : a = b
                        · subst hab
                          have hee : ((a : Int) != (a : Int)) = false := by simp
                          go_wp2_with fail
                          go_roundw
                          case rel => exact ⟨a + 1, by go_num, by omega, hrf, hc⟩
                          case measure => simp [intOf]; omega
                        · have hee : ((a : Int) != (b : Int)) = true := by rw [bne_iff_ne]; omega
                          have c3 := Lib.hid (has_rel F HFO.out a b wr)
                          rw [HFI.out a b hlta hltb] at c3
                          have k3 := Lib.hid (fun u hc => from_ref08 u _ hs a b M (HV.out.keep hc) (by have := HC.out; omega) HD.out.2 HM.out (by rw [HN.out]; exact hltb))
                          obtain ⟨b3, hb3⟩ : ∃ q, fromB M hs a b = q := ⟨_, rfl⟩
                          rw [hb3] at c3 k3
                          have e3 := bne_self2 b3
                          clear hb3
                          go_wp2_with (refine wpList_load_relG rfl (.tmp 103) rfl go 129 rfl _ hrf.out ?_)
                          refine c3.out.mono ?_
                          rintro e w7 ⟨rfl, hcA⟩
                          have hc7 := hc.seq hcA
                          have hrf7 := Lib.hid (rangeAt_keep hrf.out hcA)
                          clear hcA c3 hrf hc
                          go_wp2_with fail
                          refine (k3.out _ hc7).mono ?_
                          rintro e w8 ⟨rfl, hcA⟩
                          have hc8 := hc7.seq hcA
                          have hrf8 := Lib.hid (rangeAt_keep hrf7.out hcA)
                          clear hcA k3 hrf7 hc7
                          go_wp2_with fail
                          go_roundw
                          case rel => exact ⟨b + 1, by go_num, by omega, hrf8, hc8⟩
                          case measure => simp [intOf]; omega
                      · have hdb : decide ((b : Int) < (k : Int)) = false := decide_eq_false (by omega)
                        go_wp2_with fail
                        go_roundw
                        case rel => exact ⟨a + 1, by go_num, by omega, hrf, hc⟩
                        case measure => simp [intOf]; omega
                  · have hda : decide ((a : Int) < (k : Int)) = false := decide_eq_false (by omega)
                    go_wp2_with fail
                    go_ret
                    exact ⟨rfl, hc.below⟩
end Go.Proofs.Ytobfanodjdkkoaa
end
