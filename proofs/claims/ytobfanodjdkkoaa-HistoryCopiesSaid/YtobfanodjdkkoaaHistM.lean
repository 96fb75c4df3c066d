/- Can there be such a history, by the document (burgageref06.May, Check)? No condition but each theorem's own. -/
import Derived.Test.YtobfanodjdkkoaaHistR
set_option linter.unusedVariables false
set_option linter.unusedSimpArgs false
namespace Go.Proofs.Ytobfanodjdkkoaa
open Go.RowKit Go.Maps

/-- Do the stamps of two transactions, the first one ahead of the second one, fit? -/
def apartB (a b : Txr) : Bool := !(a.beg == b.beg || (a.beg == b.com || (a.com == b.beg || a.com == b.com))) && !(a.ses == b.ses && decide (b.beg < a.com))
def hasWB (hs : List Txr) (k v : Int) : Bool := (List.range hs.length).any fun i => wroteB (hs.getD i txrZero).ops k v
def opFine (hs : List Txr) (x : Opn) : Bool := if x.wr then tmT hs x.val hs.length == 1 else x.val == 0 || hasWB hs x.key x.val
def mayAt (hs : List Txr) (i : Nat) : Bool := txrOkB (hs.getD i txrZero) && ((List.range i).all (fun k => apartB (hs.getD k txrZero) (hs.getD i txrZero)) && (List.range (hs.getD i txrZero).ops.length).all (fun j => opFine hs ((hs.getD i txrZero).ops.getD j opZero)))
def mayH (hs : List Txr) : Bool := (List.range hs.length).all (mayAt hs)
theorem may_txn {hs : List Txr} {i : Nat} (hi : i < hs.length) (h : txrOkB (hs.getD i txrZero) = false) : mayH hs = false := all_no hi (by unfold mayAt; rw [h]; rfl)
theorem may_apart {hs : List Txr} {i k : Nat} (hi : i < hs.length) (hk : k < i) (h : apartB (hs.getD k txrZero) (hs.getD i txrZero) = false) : mayH hs = false := all_no hi (by
  unfold mayAt; rw [all_no (p := fun k => apartB (hs.getD k txrZero) (hs.getD i txrZero)) hk h]; simp)
theorem may_op {hs : List Txr} {i j : Nat} (hi : i < hs.length) (hj : j < (hs.getD i txrZero).ops.length) (h : opFine hs ((hs.getD i txrZero).ops.getD j opZero) = false) : mayH hs = false := all_no hi (by
  unfold mayAt; rw [all_no (p := fun j => opFine hs ((hs.getD i txrZero).ops.getD j opZero)) hj h]; simp)
theorem may_yes {hs : List Txr} {i : Nat} (h1 : txrOkB (hs.getD i txrZero) = true) (h2 : ∀ k, k < i → apartB (hs.getD k txrZero) (hs.getD i txrZero) = true) (h3 : ∀ j, j < (hs.getD i txrZero).ops.length → opFine hs ((hs.getD i txrZero).ops.getD j opZero) = true) : mayAt hs i = true := by
  unfold mayAt; rw [h1, all_yes h2, all_yes h3]; rfl
theorem writer_neg {hs : List Txr} {k v z : Int} (h : IsWriter hs k v z) : decide (z < 0) = !hasWB hs k v := by
  rcases h with ⟨i, hi, rfl, h1, _⟩ | ⟨rfl, h⟩
  · rw [decide_eq_false (by omega)]; unfold hasWB; rw [any_yes (p := fun i => wroteB (hs.getD i txrZero).ops k v) hi h1]; rfl
  · unfold hasWB; rw [any_no h]; rfl
set_option maxRecDepth 100000 in
set_option maxHeartbeats 8000000 in
theorem may_ref06 (w : World) (v : Value) (hs : List Txr) (hv : Txns w v hs) (hn : countTo hs hs.length ≤ 1000000) : Calls Try.prog 46 #[v] w fun e w' => e = .returned (.bool (mayH hs)) ∧ Ch nob w w' := by
  obtain ⟨A, cp, rfl⟩ := hv.shape
  have HV := Lib.hid hv
  have HC := Lib.hid hn
  obtain ⟨_, ⟨_, hlen⟩, _⟩ := hv.at
  obtain ⟨n, hn2⟩ : ∃ n, hs.length = n := ⟨_, rfl⟩
  have HN := Lib.hid hn2
  rw [hn2] at HV hlen ⊢
  have HTM := Lib.hid (fun (wr : World) (u : Int) (hc : Ch nob w wr) => times_ref06 wr (.slice A n cp) hs u (HV.out.keep hc) HC.out)
  have HWR := Lib.hid (fun (wr : World) (k u : Int) (hc : Ch nob w wr) => writer_ref06 wr (.slice A n cp) hs k u (HV.out.keep hc) HC.out)
  clear hv hn2 hn
  go_enter Try.func46, Try.ntmps46
  go_wp2_with fail
  go_loopw [3] (fun x wr => ∃ i : Nat, x = .int .i64 i ∧ i ≤ n ∧ Hid (∀ j, j < i → mayAt hs j = true) ∧ Ch nob w wr) (fun x _ => n - (intOf x).toNat)
  case atStart => exact ⟨0, rfl, Nat.zero_le _, Lib.hid (fun j hj => by omega), Ch.refl _ _⟩
  case round =>
    obtain ⟨i, rfl, hi, hst, hc⟩ := hrel
    by_cases hlt : i < n
    · have hd : decide ((i : Int) < (n : Int)) = true := decide_eq_true (by omega)
      have HI := Lib.hid (show i < hs.length from by rw [HN.out]; exact hlt)
      obtain ⟨ad, u, rfl, hx0, hx1, hx2, hx3, hu⟩ := HV.out.both hc i HI.out
      obtain ⟨T, hT⟩ : ∃ T, hs.getD i txrZero = T := ⟨_, rfl⟩
      rw [hT] at hx0 hx1 hx2 hu
      have HX := Lib.hid hT
      obtain ⟨ts, tb, tc, xs⟩ := T
      dsimp only at hx0 hx1 hx2 hu
      obtain ⟨A2, c2, rfl⟩ := hu.shape
      have hlu := hu.at.2.1.2
      obtain ⟨l, hl⟩ : ∃ l, xs.length = l := ⟨_, rfl⟩
      rw [hl] at hx3 hu hlu
      have HL := Lib.hid hl
      have HU := Lib.hid hu
      have HXO := Lib.hid (show txrOkB (hs.getD i txrZero) = txnOk ts tb tc xs from by rw [hT]; rfl)
      clear hT hu hl
      go_wp2_with fail
      refine (mayTxn_ref06 _ (.slice A2 l c2) xs ts tb tc (HU.out.keep hc)).mono ?_
      rintro e w1 ⟨rfl, hc1⟩
      have hc2 := hc.seq hc1
      clear hc1 hx0 hx1 hx2 hx3
      cases hok : txnOk ts tb tc xs with
      | false =>
        have HF := Lib.hid (may_txn HI.out (by rw [HXO.out]; exact hok))
        clear hok
        go_wp2_with fail
        go_ret
        exact ⟨ret_bool HF.out.symm, hc2⟩
      | true =>
        have HOK := Lib.hid (show txrOkB (hs.getD i txrZero) = true from by rw [HXO.out]; exact hok)
        clear hok HXO hc
        go_wp2_with fail
        go_loopw [4] (fun x wr => ∃ k : Nat, x = .int .i64 k ∧ k ≤ i ∧ Hid (∀ j, j < k → apartB (hs.getD j txrZero) (hs.getD i txrZero) = true) ∧ Ch nob w wr) (fun x _ => i - (intOf x).toNat)
        case atStart => exact ⟨0, rfl, Nat.zero_le _, Lib.hid (fun j hj => by omega), hc2⟩
        case round =>
          clear hc2
          obtain ⟨k, rfl, hk, hst2, hc⟩ := hrel
          by_cases hlt2 : k < i
          · have hd2 : decide ((k : Int) < (i : Int)) = true := decide_eq_true (by omega)
            obtain ⟨ad3, u4, hadd2, hy0, hy1, hy2, hy3, hu2⟩ := HV.out.both hc k (Nat.lt_trans hlt2 HI.out)
            obtain rfl := Option.some.inj hadd2
            obtain ⟨T2, hT2⟩ : ∃ T, hs.getD k txrZero = T := ⟨_, rfl⟩
            rw [hT2] at hy0 hy1 hy2 hu2
            obtain ⟨ks, kb, kc, kx⟩ := T2
            dsimp only at hy0 hy1 hy2 hu2
            have HAP := Lib.hid (show apartB (hs.getD k txrZero) (hs.getD i txrZero) = (!(kb == tb || (kb == tc || (kc == tb || kc == tc))) && !(ks == ts && decide (tb < kc))) from by rw [hT2, HX.out]; rfl)
            obtain ⟨A6, c6, rfl⟩ := hu2.shape
            obtain ⟨l6, hl6⟩ : ∃ l, kx.length = l := ⟨_, rfl⟩
            rw [hl6] at hy3
            obtain ⟨ad3, u3, hadd, hx0, hx1, hx2, hx3, hu⟩ := HV.out.both (hc.alloc (.cells #[.int .i64 ks, .int .i64 kb, .int .i64 kc, .slice A6 l6 c6] 33)) i HI.out
            obtain rfl := Option.some.inj hadd
            rw [HX.out] at hx0 hx1 hx2 hu
            dsimp only at hx0 hx1 hx2 hu
            obtain ⟨A5, c5, rfl⟩ := hu.shape
            obtain ⟨l5, hl5⟩ : ∃ l, xs.length = l := ⟨_, rfl⟩
            rw [hl5] at hx3
            have hc3 : Ch nob w ((wr.alloc (.cells #[.int .i64 ks, .int .i64 kb, .int .i64 kc, .slice A6 l6 c6] 33)).alloc (.cells #[.int .i64 ts, .int .i64 tb, .int .i64 tc, .slice A5 l5 c5] 33)) := (hc.alloc _).alloc _
            have hno : apartB (hs.getD k txrZero) (hs.getD i txrZero) = false → Hid (mayH hs = false) := fun h => Lib.hid (may_apart HI.out hlt2 h)
            have HNO := Lib.hid hno
            clear hadd hadd2 hT2 hu hu2 hl5 hl6 hc hno
            cases h1 : (kb == tb) with
            | true =>
              have HF := HNO.out (by rw [HAP.out, h1]; rfl)
              go_wp2_with fail
              go_ret
              exact ⟨ret_bool HF.out.symm, hc3⟩
            | false =>
              cases h2 : (kb == tc) with
              | true =>
                have HF := HNO.out (by rw [HAP.out, h1, h2]; rfl)
                go_wp2_with fail
                go_ret
                exact ⟨ret_bool HF.out.symm, hc3⟩
              | false =>
                cases h3 : (kc == tb) with
                | true =>
                  have HF := HNO.out (by rw [HAP.out, h1, h2, h3]; rfl)
                  go_wp2_with fail
                  go_ret
                  exact ⟨ret_bool HF.out.symm, hc3⟩
                | false =>
                  cases h4 : (kc == tc) with
                  | true =>
                    have HF := HNO.out (by rw [HAP.out, h1, h2, h3, h4]; rfl)
                    go_wp2_with fail
                    go_ret
                    exact ⟨ret_bool HF.out.symm, hc3⟩
                  | false =>
                    have hyes : apartB (hs.getD k txrZero) (hs.getD i txrZero) = true → Hid (∀ j, j < k + 1 → apartB (hs.getD j txrZero) (hs.getD i txrZero) = true) := fun h => Lib.hid (fun j hj => by
                      by_cases e : j = k
                      · rw [e]; exact h
                      · exact hst2.out j (by omega))
                    have HYES := Lib.hid hyes
                    clear hyes
                    cases h5 : (ks == ts) with
                    | true =>
                      by_cases h6 : tb < kc
                      · have d6 : decide (tb < kc) = true := decide_eq_true h6
                        have HF := HNO.out (by rw [HAP.out, h1, h2, h3, h4, h5, d6]; rfl)
                        go_wp2_with fail
                        go_ret
                        exact ⟨ret_bool HF.out.symm, hc3⟩
                      · have d6 : decide (tb < kc) = false := decide_eq_false h6
                        have HT := HYES.out (by rw [HAP.out, h1, h2, h3, h4, h5, d6]; rfl)
                        go_wp2_with fail
                        go_roundw
                        case rel => exact ⟨k + 1, by go_num, by omega, HT, hc3⟩
                        case measure => simp [intOf]; omega
                    | false =>
                      have HT := HYES.out (by rw [HAP.out, h1, h2, h3, h4, h5]; rfl)
                      go_wp2_with fail
                      go_roundw
                      case rel => exact ⟨k + 1, by go_num, by omega, HT, hc3⟩
                      case measure => simp [intOf]; omega
          · have hd2 : decide ((k : Int) < (i : Int)) = false := decide_eq_false (by omega)
            have HAP := Lib.hid (show ∀ k, k < i → apartB (hs.getD k txrZero) (hs.getD i txrZero) = true from fun j hj => hst2.out j (by omega))
            go_wp2_with fail
            go_loopw [7] (fun x wr => ∃ j : Nat, x = .int .i64 j ∧ j ≤ l ∧ Hid (∀ q, q < j → opFine hs (xs.getD q opZero) = true) ∧ Ch nob w wr) (fun x _ => l - (intOf x).toNat)
            case atStart => exact ⟨0, rfl, Nat.zero_le _, Lib.hid (fun j hj => by omega), hc⟩
            case round =>
              clear hc
              obtain ⟨j, rfl, hj, hst3, hc⟩ := hrel
              obtain ⟨ad3, u3, hadd, hx0, hx1, hx2, hx3, hu⟩ := HV.out.both hc i HI.out
              obtain rfl := Option.some.inj hadd
              rw [HX.out] at hu
              dsimp only at hu
              obtain ⟨A5, c5, rfl⟩ := hu.shape
              rw [HL.out] at hx3 hu
              clear hadd hx0 hx1 hx2
              by_cases hlt3 : j < l
              · have hd3 : decide ((j : Int) < (l : Int)) = true := decide_eq_true (by omega)
                obtain ⟨ad4, rfl, hy0, hy1, hy2⟩ := (hu.keep hc).at.2.2 j (by rw [HL.out]; exact hlt3)
                obtain ⟨x, hx⟩ : ∃ x, xs.getD j opZero = x := ⟨_, rfl⟩
                rw [hx] at hy0 hy1 hy2
                obtain ⟨xw, xk, xv⟩ := x
                have hc3 := hc.alloc (.cells #[.bool xw, .int .i64 xk, .int .i64 xv] 35)
                have hcB : Ch nob wr (wr.alloc (.cells #[.bool xw, .int .i64 xk, .int .i64 xv] 35)) := (Ch.refl _ _).alloc _
                have HS := Lib.hid (show opFine hs (xs.getD j opZero) = (if xw then tmT hs xv hs.length == 1 else xv == 0 || hasWB hs xk xv) from by rw [hx]; rfl)
                have hno : opFine hs (xs.getD j opZero) = false → Hid (mayH hs = false) := fun h => Lib.hid (may_op HI.out (j := j) (by rw [HX.out]; show j < xs.length; rw [HL.out]; exact hlt3) (by rw [HX.out]; exact h))
                have HNO := Lib.hid hno
                have hyes : opFine hs (xs.getD j opZero) = true → Hid (∀ q, q < j + 1 → opFine hs (xs.getD q opZero) = true) := fun h => Lib.hid (fun q hq => by
                  by_cases e : q = j
                  · rw [e]; exact h
                  · exact hst3.out q (by omega))
                have HYES := Lib.hid hyes
                clear hx hno hyes hu hc
                cases xw with
                | true =>
                  have HT0 := Lib.hid (HTM.out _ xv hc3)
                  obtain ⟨tm, htm⟩ : ∃ tm, tmT hs xv hs.length = tm := ⟨_, rfl⟩
                  rw [htm] at HT0
                  have HTM2 := Lib.hid htm
                  clear htm HT0
                  have HT1 := Lib.hid (fun (wq : World) (hq : Ch nob w wq) => (show Calls Try.prog 71 #[.slice (some ad) n cp, .int .i64 xv] wq fun e w' => e = .returned (.int .i64 tm) ∧ wq = w' from by
                    have := HTM.out wq xv hq
                    rw [HTM2.out] at this
                    exact this))
                  cases h1 : ((tm : Int) != 1) with
                  | true =>
                    have HF := HNO.out (by
                      rw [HS.out, HTM2.out, if_pos rfl]
                      have h2 : ¬ (tm : Int) = 1 := by simpa using h1
                      exact beq_false_of_ne (by omega))
                    go_wp2_with fail
                    refine (HT1.out _ hc3).mono ?_
                    rintro e w2 ⟨rfl, rfl⟩
                    go_wp2_with fail
                    go_ret
                    exact ⟨ret_bool HF.out.symm, hc3⟩
                  | false =>
                    have HT := HYES.out (by
                      rw [HS.out, HTM2.out, if_pos rfl]
                      have h2 : (tm : Int) = 1 := by simpa using h1
                      exact beq_iff_eq.2 (by omega))
                    go_wp2_with fail
                    refine (HT1.out _ hc3).mono ?_
                    rintro e w2 ⟨rfl, rfl⟩
                    go_wp2_with fail
                    go_roundw
                    case rel => exact ⟨j + 1, by go_num, by omega, HT, hc3⟩
                    case measure => simp [intOf]; omega
                | false =>
                  cases h1 : (xv == 0) with
                  | true =>
                    have h2 : (xv != 0) = false := by unfold bne; rw [h1]; rfl
                    have HT := HYES.out (by rw [HS.out, h1]; rfl)
                    go_wp2_with fail
                    go_roundw
                    case rel => exact ⟨j + 1, by go_num, by omega, HT, hc3⟩
                    case measure => simp [intOf]; omega
                  | false =>
                    have h2 : (xv != 0) = true := by unfold bne; rw [h1]; rfl
                    go_wp2_with fail
                    refine (HWR.out _ xk xv hc3).mono ?_
                    rintro e w2 ⟨z, rfl, hz, hc4⟩
                    have hc5 := hc3.seq hc4
                    have HZ := Lib.hid (writer_neg hz)
                    clear hz
                    cases h3 : decide (z < 0) with
                    | true =>
                      have HF := HNO.out (by
                        rw [HS.out, h1]
                        have := HZ.out
                        rw [h3] at this
                        show (false || hasWB hs xk xv) = false
                        cases hh : hasWB hs xk xv with
                        | true => rw [hh] at this; cases this
                        | false => rfl)
                      go_wp2_with fail
                      go_ret
                      exact ⟨ret_bool HF.out.symm, hc5⟩
                    | false =>
                      have HT := HYES.out (by
                        rw [HS.out, h1]
                        have := HZ.out
                        rw [h3] at this
                        show (false || hasWB hs xk xv) = true
                        cases hh : hasWB hs xk xv with
                        | true => rfl
                        | false => rw [hh] at this; cases this)
                      go_wp2_with fail
                      go_roundw
                      case rel => exact ⟨j + 1, by go_num, by omega, HT, hc5⟩
                      case measure => simp [intOf]; omega
              · have hd3 : decide ((j : Int) < (l : Int)) = false := decide_eq_false (by omega)
                have HT := Lib.hid (show ∀ q, q < i + 1 → mayAt hs q = true from fun q hq => by
                  by_cases e : q = i
                  · rw [e]
                    exact may_yes HOK.out HAP.out (fun r hr => by
                      rw [HX.out] at hr ⊢
                      exact hst3.out r (by have h : r < xs.length := hr; rw [HL.out] at h; omega))
                  · exact hst.out q (by omega))
                go_wp2_with fail
                go_roundw
                case rel => exact ⟨i + 1, by go_num, by omega, HT, hc⟩
                case measure => simp [intOf]; omega
    · have hd : decide ((i : Int) < (n : Int)) = false := decide_eq_false (by omega)
      have HF := Lib.hid (show mayH hs = true from all_yes (fun j hj => hst.out j (by have := HN.out; omega)))
      go_wp2_with fail
      go_ret
      exact ⟨ret_bool HF.out.symm, hc⟩
end Go.Proofs.Ytobfanodjdkkoaa
