/- The law HistoryWrites: who writes each value, and whether it is the last one. No condition but each theorem's own. -/
import Derived.Test.YtobfanodjdkkoaaHistL2
set_option linter.unusedVariables false
set_option linter.unusedSimpArgs false
namespace Go.Proofs.Ytobfanodjdkkoaa
open Go.RowKit Go.Maps

theorem firstVal_mem : ∀ {l : List Opn} {o : Opn}, l.Pairwise (fun x y => x.key < y.key) → o ∈ l → firstVal l o.key = o.val
  | x :: l, o, hp, h => by
    rw [List.pairwise_cons] at hp
    unfold firstVal
    rcases List.mem_cons.1 h with rfl | h
    · rw [if_pos rfl]
    · have := hp.1 o h
      rw [if_neg (by omega)]
      exact firstVal_mem hp.2 h
theorem valR_is {xs : List Opn} {k : Int} {o : Opn} (h : lastW xs xs.length k = some o) (h0 : 0 ≤ k) (h1 : k < 64) : valR xs k = o.val := by
  have hk := (lastW_mem (Nat.le_refl _) h).2.2
  have hm : o ∈ writesR xs 64 := (mem_writesR xs o 64).2 ⟨by rw [hk]; exact ⟨h0, h1⟩, by rw [hk]; exact h⟩
  have := firstVal_mem (writesR_rise xs 64) hm
  rw [hk] at this
  exact this
theorem lastW_some {xs : List Opn} {k : Int} : ∀ {i j : Nat}, j < i → (xs.getD j opZero).wr = true → (xs.getD j opZero).key = k → ∃ o, lastW xs i k = some o
  | 0, j, h, _, _ => by omega
  | i + 1, j, h, hw, hk => by
    unfold lastW
    split
    · exact ⟨_, rfl⟩
    · rename_i hn
      refine lastW_some (j := j) ?_ hw hk
      by_cases e : j = i
      · subst e; exact absurd ⟨hw, hk⟩ hn
      · omega
theorem may_ops {hs : List Txr} (h : mayH hs = true) {i j : Nat} (hi : i < hs.length) (hj : j < (hs.getD i txrZero).ops.length) : 0 ≤ ((hs.getD i txrZero).ops.getD j opZero).key ∧ ((hs.getD i txrZero).ops.getD j opZero).key < 64 ∧ (hs.getD i txrZero).ops.length ≤ 64 := by
  have h1 := all_iff.1 ((may_iff hs).1 h).1 i hi
  unfold txrOkB txnOk at h1
  rw [Bool.and_eq_true] at h1
  have h2 := may_at h1.2 hj
  have h3 := h1.1
  unfold opOk at h2
  unfold headOk at h3
  simp only [Bool.and_eq_true, decide_eq_true_eq] at h2 h3
  exact ⟨h2.1.1.1.1, h2.1.1.1.2, h3.2⟩
theorem write_is {hs : List Txr} {M : WM} (hm : mayH hs = true) (h : histF hs hs.length = some M) {i j : Nat} (hi : i < hs.length) {xs : List Opn} (hx : (hs.getD i txrZero).ops = xs) (hj : j < xs.length) {x : Opn} (hxj : xs.getD j opZero = x) (hw : x.wr = true) : M x.val = some ⟨(i : Int), x.key, valR xs x.key == x.val⟩ := by
  have g := goodH h
  have hwk : wroteB xs x.key x.val = true := any_yes hj (by rw [hxj]; unfold isWK; rw [hw]; simp)
  have hwk2 : wroteB (hs.getD i txrZero).ops x.key x.val = true := by rw [hx]; exact hwk
  have h1 := g.cnt x.val
  have h2 := tmT_pos (hs := hs) (v := x.val) hi
  have h3 := wrote_tm hwk2
  cases e : M x.val with
  | none => rw [e] at h1; simp [b2n] at h1; omega
  | some y =>
    obtain ⟨t, ht, hy1, hy2, hy3⟩ := g.wr _ _ e
    obtain ⟨e1, e2⟩ := one_key h hi ht hwk2 hy2
    subst e1
    obtain ⟨yt, yk, yl⟩ := y
    dsimp only at hy1 hy3 e2
    subst hy1
    rw [← e2, hy3, hx]
    have hkr := may_ops hm hi (j := j) (by rw [hx]; exact hj)
    rw [hx, hxj] at hkr
    obtain ⟨o, ho⟩ := lastW_some (k := x.key) hj (by rw [hxj]; exact hw) (by rw [hxj])
    have hv := valR_is ho hkr.1 hkr.2.1
    rw [hv]
    have hfin : isLast xs x.val = (o.val == x.val) := by
      rw [Bool.eq_iff_iff, isLast_iff, beq_iff_eq]
      constructor
      · rintro ⟨p, hp1, hp2⟩
        have hp3 := lastW_mem (Nat.le_refl _) hp2
        obtain ⟨q, hq1, hq2⟩ := lastW_in hp2
        have hpw : wroteB (hs.getD i txrZero).ops p.key x.val = true := by
          rw [hx]
          exact any_yes hq1 (by rw [hq2]; unfold isWK; rw [hp3.2.1, hp1]; simp)
        have := (one_key h hi hi hpw hwk2).2
        rw [this, ho] at hp2
        cases hp2
        exact hp1
      · intro hv2
        exact ⟨o, hv2, by rw [(lastW_mem (Nat.le_refl _) ho).2.2]; exact ho⟩
    rw [hfin]
theorem quiet_imap_get {P : Program} {C : World → Prop} {o : Oper} {a : Act} {K : Act → Prop} (T : TypeId) (m x : Operand) (ho : o.op = .lookup T m x false) (b : Nat) (k : Int) (v : Value) (hm : a.eval m = .map (some b)) (hx : a.eval x = .int .i64 k)
    (hr : ∀ w, C w → (Instr.lookup T (.map (some b)) (.int .i64 k) false).run P w = .ok v w) (h : K (a.put o.dst v)) : o.quiet P a C K :=
  ⟨v, fun w hw => by
    unfold Oper.quietAt execOp
    simp only [ho, hm, hx, Sem.run_bind, hr w hw, Result.andThen_ok]
    exact ⟨rfl, rfl⟩, h⟩
set_option maxRecDepth 100000 in
set_option maxHeartbeats 4000000 in
theorem law_historywrites (w : World) (v : Value) (hs : List Txr) (hv : Txns w v hs) (hk : TxnsOk hs) (hL : LensOk hs) : Calls Try.prog 4 #[v] w fun e w' => e = .returned (.bool true) ∧ Below w.heap.size w w' := by
  obtain ⟨A, cp, rfl⟩ := hv.shape
  have HV := Lib.hid hv
  have HK := Lib.hid hk
  have HLN := Lib.hid hL
  obtain ⟨_, ⟨_, hlen⟩, _⟩ := hv.at
  obtain ⟨n, hn2⟩ : ∃ n, hs.length = n := ⟨_, rfl⟩
  have HN := Lib.hid hn2
  rw [hn2] at HV hlen ⊢
  clear hv hk hL hn2
  go_enter Try.func4, Try.ntmps4
  go_wp2_with fail
  refine (speaks06 _).mono ?_
  rintro e w1 ⟨rfl, hc1⟩
  go_wp2_with fail
  refine (big06 _ _ hs (HV.out.keep hc1) HLN.out).mono ?_
  rintro e w2 ⟨rfl, hc2⟩
  have hc3 := hc1.seq hc2
  clear hc1 hc2
  cases hb : bigN hs with
  | true =>
    rw [bigZ_yes hb]
    go_wp2_with fail
    go_ret
    exact ⟨rfl, hc3.below⟩
  | false =>
    rw [bigZ_no hb]
    have HC := Lib.hid (show countTo hs hs.length ≤ 1200 from (bigN_count hb).2)
    clear hb
    have HD := check_ref06 w2 (.slice A n cp) hs (HV.out.keep hc3) (by have := HC.out; omega)
    cases hdm : bigB hs with
    | true =>
      rw [doc_big hdm] at HD
      have HD2 := Lib.hid HD
      clear HD hdm
      go_wp2_with fail
      refine HD2.out.mono ?_
      rintro e w4 ⟨rfl, hcA⟩
      have hc4 := hc3.seq hcA
      clear HD2 hcA hc3
      go_wp2_with fail
      go_ret
      exact ⟨rfl, hc4.below⟩
    | false =>
      cases hmy : mayH hs with
      | false =>
        rw [doc_no hdm hmy] at HD
        have HD2 := Lib.hid HD
        clear HD hdm hmy
        go_wp2_with fail
        refine HD2.out.mono ?_
        rintro e w4 ⟨rfl, hcA⟩
        have hc4 := hc3.seq hcA
        clear HD2 hcA hc3
        go_wp2_with fail
        go_ret
        exact ⟨rfl, hc4.below⟩
      | true =>
        rw [doc_may hdm hmy] at HD
        have HD2 := Lib.hid HD
        have HMY := Lib.hid hmy
        clear HD hdm hmy
        go_wp2_with fail
        refine HD2.out.mono ?_
        rintro e w4 ⟨rfl, hcA⟩
        have hc4 := hc3.seq hcA
        clear HD2 hcA hc3
        go_wp2_with fail
        refine (writes_history _ _ hs (HV.out.keep hc4) HK.out (by have := HC.out; omega)).mono ?_
        rintro e w5 ⟨hres, hcA⟩
        have hc5 := hc4.seq hcA
        rcases hres with ⟨b, M, rfl, hM, hmap⟩ | ⟨b, rfl, hM⟩
        · have HM := Lib.hid hM
          have HMP0 := Lib.hid hmap
          clear hM hmap hcA hc4
          go_wp2_with fail
          go_loopw [27, 5] (fun x y wr => ∃ i m : Nat, x = .int .i64 i ∧ y = .int .i64 m ∧ i ≤ n ∧ m ≤ 1200 ∧ Hid (m = wrT hs i) ∧ Hid (IMap Try.prog 3 wr b (wrT hs hs.length) (wmF M)) ∧ Ch nob w wr) (fun x _ _ => n - (intOf x).toNat)
          case atStart => exact ⟨0, 0, rfl, rfl, Nat.zero_le _, by omega, Lib.hid rfl, HMP0, hc5⟩
          case round =>
            clear hc5 HMP0
            obtain ⟨i, m, rfl, rfl, hi, hm1, hm, hmp, hc⟩ := hrel
            by_cases hlt : i < n
            · have hd : decide ((i : Int) < (n : Int)) = true := decide_eq_true (by omega)
              obtain ⟨ad, u, rfl, hx0, hx1, hx2, hx3, hu⟩ := HV.out.both hc i (by rw [HN.out]; exact hlt)
              have hok := (HK.out i (by rw [HN.out]; exact hlt)).1
              have hle := countTo_mono hs (show i + 1 ≤ hs.length by rw [HN.out]; omega)
              have hcs : countTo hs (i + 1) = countTo hs i + (hs.getD i txrZero).ops.length := rfl
              have hws : wrT hs (i + 1) = wrT hs i + wrN (hs.getD i txrZero).ops (hs.getD i txrZero).ops.length := rfl
              have hwl := wrT_le hs i
              have HI := Lib.hid (show i < hs.length from by rw [HN.out]; exact hlt)
              obtain ⟨T, hT⟩ : ∃ T, hs.getD i txrZero = T := ⟨_, rfl⟩
              rw [hT] at hx0 hx1 hx2 hu hok hcs hws
              have HX := Lib.hid (show (hs.getD i txrZero).ops = T.ops from by rw [hT])
              obtain ⟨ts, tb, tc, xs⟩ := T
              dsimp only at hx0 hx1 hx2 hu hok hcs hws HX
              obtain ⟨A2, c2, rfl⟩ := hu.shape
              obtain ⟨l, hl⟩ : ∃ l, xs.length = l := ⟨_, rfl⟩
              rw [hl] at hx3 hu hcs hws
              have hll : m + l ≤ 1200 := by have := HC.out; have := hm.out; omega
              have HWS := Lib.hid (show wrT hs (i + 1) = m + wrN xs l from by rw [hws, ← hm.out])
              have HL := Lib.hid hl
              have HU := Lib.hid hu
              have HO := Lib.hid hok
              have hcA : Ch nob wr (wr.alloc (.cells #[.int .i64 ts, .int .i64 tb, .int .i64 tc, .slice A2 l c2] 33)) := (Ch.refl _ _).alloc _
              have hmp2 := Lib.hid (hmp.out.keep hcA)
              have hc6 := hc.seq hcA
              have HB := Lib.hid (Blk.new wr #[.int .i64 ts, .int .i64 tb, .int .i64 tc, .slice A2 l c2] 33)
              clear hT hu hl hok hle hcs hws hwl hmp hc hcA
              go_wp2_with fail
              obtain ⟨wo, hwo⟩ : ∃ wo, wr.alloc (.cells #[.int .i64 ts, .int .i64 tb, .int .i64 tc, .slice A2 l c2] 33) = wo := ⟨_, rfl⟩
              obtain ⟨gt, hgt⟩ : ∃ gt, wr.heap.size = gt := ⟨_, rfl⟩
              rw [hwo, hgt] at HB
              rw [hwo] at hmp2 hc6 ⊢
              rw [hgt]
              clear hwo hgt hx0 hx1 hx2 hx3
              go_loopw [35, 5] (fun x y wr => ∃ j q : Nat, x = .int .i64 j ∧ y = .int .i64 q ∧ j ≤ l ∧ q ≤ m + j ∧ Hid (q = m + wrN xs j) ∧ Hid (IMap Try.prog 3 wr b (wrT hs hs.length) (wmF M)) ∧ Hid (Blk wr gt #[.int .i64 ts, .int .i64 tb, .int .i64 tc, .slice A2 l c2] 33) ∧ Ch nob w wr) (fun x _ _ => l - (intOf x).toNat)
              case atStart => exact ⟨0, m, rfl, rfl, Nat.zero_le _, by omega, Lib.hid rfl, hmp2, HB, hc6⟩
              case round =>
                clear hmp2 HB hc6
                obtain ⟨j, q, rfl, rfl, hj, hq, hqq, hmp, hb, hc⟩ := hrel
                by_cases hlt2 : j < l
                · have hd2 : decide ((j : Int) < (l : Int)) = true := decide_eq_true (by omega)
                  obtain ⟨ad2, rfl, hy0, hy1, hy2⟩ := (HU.out.keep hc).at.2.2 j (by rw [HL.out]; exact hlt2)
                  have hwf := HO.out.2 j (by rw [HL.out]; exact hlt2)
                  have hws : wrN xs (j + 1) = wrN xs j + if (xs.getD j opZero).wr then 1 else 0 := rfl
                  obtain ⟨x, hx⟩ : ∃ x, xs.getD j opZero = x := ⟨_, rfl⟩
                  rw [hx] at hy0 hy1 hy2 hwf hws
                  have HX2 := Lib.hid hx
                  obtain ⟨xw, xk, xv⟩ := x
                  have HS := Lib.hid (show m + wrN xs (j + 1) = q + if xw then 1 else 0 from by rw [hws, hqq.out, Nat.add_assoc])
                  have hcB : Ch nob wr (wr.alloc (.cells #[.bool xw, .int .i64 xk, .int .i64 xv] 35)) := (Ch.refl _ _).alloc _
                  have hm3 := Lib.hid (hmp.out.keep hcB)
                  have hb3 := Lib.hid (hb.out.ch hcB (fun h => h))
                  have hc7 := hc.seq hcB
                  clear hx hws hmp hb hc hcB
                  cases xw with
                  | false =>
                    have HQ := Lib.hid (show q = m + wrN xs (j + 1) from by rw [HS.out]; rfl)
                    go_wp2_with fail
                    go_roundw
                    case rel => exact ⟨j + 1, q, by go_num, rfl, by omega, by omega, HQ, hm3, hb3, hc7⟩
                    case measure => simp [intOf]; omega
                  | true =>
                    have HQ := Lib.hid (show q + 1 = m + wrN xs (j + 1) from by rw [HS.out]; rfl)
                    have hMx := write_is HMY.out HM.out HI.out HX.out (by rw [HL.out]; exact hlt2) HX2.out rfl
                    dsimp only at hMx
                    obtain ⟨z, hz⟩ : ∃ z, valR xs xk = z := ⟨_, rfl⟩
                    rw [hz] at hMx
                    have hlk : wmF M xv = some (.agg #[.int .i64 i, .int .i64 xk, .bool (z == xv)]) := by unfold wmF; rw [hMx]; rfl
                    have hcw : Ch nob w (wr.alloc (.cells #[.bool true, .int .i64 xk, .int .i64 xv] 35)) := hc7
                    have hp0 := hb3.out.cell (i := 0) (v := .int .i64 ts) rfl
                    have hp1 := hb3.out.cell (i := 1) (v := .int .i64 tb) rfl
                    have hp2 := hb3.out.cell (i := 2) (v := .int .i64 tc) rfl
                    have hp3 := hb3.out.cell (i := 3) (v := .slice (some ad2) l c2) rfl
                    have hnb := Blk.new wr #[.bool true, .int .i64 xk, .int .i64 xv] 35
                    have hn1 := hnb.cell (i := 1) (v := .int .i64 xk) rfl
                    have hn2 := hnb.cell (i := 2) (v := .int .i64 xv) rfl
                    have hrun : ∀ w', (∃ u : Ext (wr.alloc (.cells #[.bool true, .int .i64 xk, .int .i64 xv] 35)), w' = u.val) → (Instr.lookup 28 (.map (some b)) (.int .i64 xv) false).run Try.prog w' = .ok (.agg #[.int .i64 i, .int .i64 xk, .bool (z == xv)]) w' := by
                      rintro _ ⟨u, rfl⟩
                      have := ((hm3.out.keep u.ch).at_ under_int under_miw (zero_w u.val) xv hwf).2
                      rw [hlk] at this
                      exact this
                    have HRUN := Lib.hid hrun
                    have HLS := Lib.hid (fun (u : Ext (wr.alloc (.cells #[.bool true, .int .i64 xk, .int .i64 xv] 35))) => ext_of (last_ref06 u.val (.slice (some ad2) l c2) xs ts tb tc xk xv z hz ((HU.out.keep hcw).keep u.ch) (by rw [HL.out]; omega)))
                    clear hMx hz hlk hrun hnb
                    have X0 := fun u : Ext _ => Ext.cell hp0 u
                    have X1 := fun u : Ext _ => Ext.cell hp1 u
                    have X2 := fun u : Ext _ => Ext.cell hp2 u
                    have X3 := fun u : Ext _ => Ext.cell hp3 u
                    have X4 := fun u : Ext _ => Ext.cell hn1 u
                    have X5 := fun u : Ext _ => Ext.cell hn2 u
                    go_wp2_with fail
                    refine wp_region_ch (w0 := _) (by kernel_rfl) (by kernel_rfl) (Ch.refl _ _) ?_
                    repeat (first | (go_big_quiet_want; refine quiet_imap_get 28 _ _ rfl b xv _ rfl rfl HRUN.out ?_; simp only [Act.put, List.setIfInBounds_toArray, List.set_cons_succ, List.set_cons_zero]; go_big_quiet_on) | go_big_quiet_step (exact HLS.out _))
                    refine wpQuiet_nil ?_
                    rintro wq ⟨⟨_, hcq⟩, rfl⟩
                    have hm9 := Lib.hid (hm3.out.keep hcq)
                    have hb9 := Lib.hid (hb3.out.ch hcq (fun h => h))
                    have hc9 := hc7.seq hcq
                    clear X0 X1 X2 X3 X4 X5 hp0 hp1 hp2 hp3 hn1 hn2 hm3 hb3 hcq hc7 HRUN HLS hcw
                    go_wp2_with fail
                    go_roundw
                    case rel => exact ⟨j + 1, q + 1, by go_num, by go_num, by omega, by omega, HQ, hm9, hb9, hc9⟩
                    case measure => simp [intOf]; omega
                · have hd2 : decide ((j : Int) < (l : Int)) = false := decide_eq_false (by omega)
                  obtain rfl : j = l := by omega
                  have HQ := Lib.hid (show q = wrT hs (i + 1) from by rw [HWS.out, hqq.out])
                  go_wp2_with fail
                  go_roundw
                  case rel => exact ⟨i + 1, q, by go_num, rfl, by omega, by omega, HQ, hmp, hc⟩
                  case measure => simp [intOf]; omega
            · have hd : decide ((i : Int) < (n : Int)) = false := decide_eq_false (by omega)
              obtain rfl : i = n := by omega
              have hmo := hmp.out
              have hmm2 : wrT hs hs.length = m := by rw [HN.out, ← hm.out]
              rw [hmm2] at hmo
              have hee : ((m : Int) == (m : Int)) = true := beq_self_eq_true _
              clear hmm2
              go_wp2_with (at_len; refine wpList_imap_lenG _ rfl _ 28 rfl 3 37 under_miw _ _ _ rfl hmo ?_)
              go_ret
              exact ⟨rfl, hc.below⟩
        · exfalso
          obtain ⟨M, hM2⟩ := hist_some.2 (fun t q ht hq hw => by
            have := ((may_iff hs).1 HMY.out).2.2 t ht q hq
            unfold opFine at this
            rw [if_pos hw] at this
            exact beq_iff_eq.1 this)
          rw [hM] at hM2
          cases hM2
end Go.Proofs.Ytobfanodjdkkoaa
