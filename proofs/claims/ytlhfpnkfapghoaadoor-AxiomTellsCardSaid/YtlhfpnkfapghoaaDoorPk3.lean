/- Texts of this claim, merged: HistM HistE TxnOpen HistL0 HistL1 HistL2 HistL3. -/
import Derived.Test.YtlhfpnkfapghoaaDoorPk2
import Derived.SizedLaws
section
/- Can there be such a history, by the document (burgageref06.May, Check)? No condition but each theorem's own. -/
set_option linter.unusedVariables false
set_option linter.unusedSimpArgs false
namespace Go.Proofs.YtlhfpnkfapghoaaDoor
open Go.RowKit Go.Maps

/-- Do the stamps of two transactions, the first one ahead of the second one, fit? -/
def apartB (a b : Txr) : Bool := !(a.beg == b.beg || (a.beg == b.com || (a.com == b.beg || a.com == b.com))) && !(a.ses == b.ses && decide (b.beg < a.com))
def hasWB (hs : List Txr) (k v : Int) : Bool := (List.range hs.length).any fun i => wroteB (hs.getD i txrZero).ops k v
def opFine (hs : List Txr) (x : Opn) : Bool := if x.wr then tmT hs x.val hs.length == 1 else x.val == 0 || hasWB hs x.key x.val
def mayAt (hs : List Txr) (i : Nat) : Bool := txrOkB (hs.getD i txrZero) && ((List.range i).all (fun k => apartB (hs.getD k txrZero) (hs.getD i txrZero)) && (List.range (hs.getD i txrZero).ops.length).all (fun j => opFine hs ((hs.getD i txrZero).ops.getD j opZero)))
def mayH (hs : List Txr) : Bool := (List.range hs.length).all (mayAt hs)
theorem may_txn {hs : List Txr} {i : Nat} (hi : i < hs.length) (h : txrOkB (hs.getD i txrZero) = false) : mayH hs = false := all_no hi (by unfold mayAt; rw [h]; rfl)
theorem may_apart {hs : List Txr} {i k : Nat} (hi : i < hs.length) (hk : k < i) (h : apartB (hs.getD k txrZero) (hs.getD i txrZero) = false) : mayH hs = false := all_no hi (by
  unfold mayAt; rw [all_no (p := fun k => apartB (hs.getD k txrZero) (hs.getD i txrZero)) hk h]; simp)
theorem may_op {hs : List Txr} {i j : Nat} (hi : i < hs.length) (hj : j < (hs.getD i txrZero).ops.length) (h : opFine hs ((hs.getD i txrZero).ops.getD j opZero) = false) : mayH hs = false := all_no hi (by
  unfold mayAt; rw [all_no (p := fun j => opFine hs ((hs.getD i txrZero).ops.getD j opZero)) hj h]; simp)
theorem may_yes {hs : List Txr} {i : Nat} (h1 : txrOkB (hs.getD i txrZero) = true) (h2 : ∀ k, k < i → apartB (hs.getD k txrZero) (hs.getD i txrZero) = true) (h3 : ∀ j, j < (hs.getD i txrZero).ops.length → opFine hs ((hs.getD i txrZero).ops.getD j opZero) = true) : mayAt hs i = true := by
  unfold mayAt; rw [h1, all_yes h2, all_yes h3]; rfl
theorem writer_neg {hs : List Txr} {k v z : Int} (h : IsWriter hs k v z) : decide (z < 0) = !hasWB hs k v := by
  rcases h with ⟨i, hi, rfl, h1, _⟩ | ⟨rfl, h⟩
  · rw [decide_eq_false (by omega)]; unfold hasWB; rw [any_yes (p := fun i => wroteB (hs.getD i txrZero).ops k v) hi h1]; rfl
  · unfold hasWB; rw [any_no h]; rfl
set_option maxRecDepth 100000 in
set_option maxHeartbeats 8000000 in
theorem may_ref06 (w : World) (v : Value) (hs : List Txr) (hv : Txns w v hs) (hn : countTo hs hs.length ≤ 1000000) : Calls Tryd.prog 114 #[v] w fun e w' => e = .returned (.bool (mayH hs)) ∧ Ch nob w w' := by
  obtain ⟨A, cp, rfl⟩ := hv.shape
  have HV := Lib.hid hv
  have HC := Lib.hid hn
  obtain ⟨_, ⟨_, hlen⟩, _⟩ := hv.at
  obtain ⟨n, hn2⟩ : ∃ n, hs.length = n := ⟨_, rfl⟩
  have HN := Lib.hid hn2
  rw [hn2] at HV hlen ⊢
  have HTM := Lib.hid (fun (wr : World) (u : Int) (hc : Ch nob w wr) => times_ref06 wr (.slice A n cp) hs u (HV.out.keep hc) HC.out)
  have HWR := Lib.hid (fun (wr : World) (k u : Int) (hc : Ch nob w wr) => writer_ref06 wr (.slice A n cp) hs k u (HV.out.keep hc) HC.out)
  clear hv hn2 hn
  go_enter Tryd.func114, Tryd.ntmps114
  go_wp2_with fail
  go_loopw [3] (fun x wr => ∃ i : Nat, x = .int .i64 i ∧ i ≤ n ∧ Hid (∀ j, j < i → mayAt hs j = true) ∧ Ch nob w wr) (fun x _ => n - (intOf x).toNat)
  case atStart => exact ⟨0, rfl, Nat.zero_le _, Lib.hid (fun j hj => by omega), Ch.refl _ _⟩
  case round =>
    obtain ⟨i, rfl, hi, hst, hc⟩ := hrel
    by_cases hlt : i < n
    · have hd : decide ((i : Int) < (n : Int)) = true := decide_eq_true (by omega)
      have HI := Lib.hid (show i < hs.length from by rw [HN.out]; exact hlt)
      obtain ⟨ad, u, rfl, hx0, hx1, hx2, hx3, hu⟩ := HV.out.both hc i HI.out
      obtain ⟨T, hT⟩ : ∃ T, hs.getD i txrZero = T := ⟨_, rfl⟩
      rw [hT] at hx0 hx1 hx2 hu
      have HX := Lib.hid hT
      obtain ⟨ts, tb, tc, xs⟩ := T
      dsimp only at hx0 hx1 hx2 hu
      obtain ⟨A2, c2, rfl⟩ := hu.shape
      have hlu := hu.at.2.1.2
      obtain ⟨l, hl⟩ : ∃ l, xs.length = l := ⟨_, rfl⟩
      rw [hl] at hx3 hu hlu
      have HL := Lib.hid hl
      have HU := Lib.hid hu
      have HXO := Lib.hid (show txrOkB (hs.getD i txrZero) = txnOk ts tb tc xs from by rw [hT]; rfl)
      clear hT hu hl
      go_wp2_with fail
      refine (mayTxn_ref06 _ (.slice A2 l c2) xs ts tb tc (HU.out.keep hc)).mono ?_
      rintro e w1 ⟨rfl, hc1⟩
      have hc2 := hc.seq hc1
      clear hc1 hx0 hx1 hx2 hx3
      cases hok : txnOk ts tb tc xs with
      | false =>
        have HF := Lib.hid (may_txn HI.out (by rw [HXO.out]; exact hok))
        clear hok
        go_wp2_with fail
        go_ret
        exact ⟨ret_bool HF.out.symm, hc2⟩
      | true =>
        have HOK := Lib.hid (show txrOkB (hs.getD i txrZero) = true from by rw [HXO.out]; exact hok)
        clear hok HXO hc
        go_wp2_with fail
        go_loopw [4] (fun x wr => ∃ k : Nat, x = .int .i64 k ∧ k ≤ i ∧ Hid (∀ j, j < k → apartB (hs.getD j txrZero) (hs.getD i txrZero) = true) ∧ Ch nob w wr) (fun x _ => i - (intOf x).toNat)
        case atStart => exact ⟨0, rfl, Nat.zero_le _, Lib.hid (fun j hj => by omega), hc2⟩
        case round =>
          clear hc2
          obtain ⟨k, rfl, hk, hst2, hc⟩ := hrel
          by_cases hlt2 : k < i
          · have hd2 : decide ((k : Int) < (i : Int)) = true := decide_eq_true (by omega)
            obtain ⟨ad3, u4, hadd2, hy0, hy1, hy2, hy3, hu2⟩ := HV.out.both hc k (Nat.lt_trans hlt2 HI.out)
            obtain rfl := Option.some.inj hadd2
            obtain ⟨T2, hT2⟩ : ∃ T, hs.getD k txrZero = T := ⟨_, rfl⟩
            rw [hT2] at hy0 hy1 hy2 hu2
            obtain ⟨ks, kb, kc, kx⟩ := T2
            dsimp only at hy0 hy1 hy2 hu2
            have HAP := Lib.hid (show apartB (hs.getD k txrZero) (hs.getD i txrZero) = (!(kb == tb || (kb == tc || (kc == tb || kc == tc))) && !(ks == ts && decide (tb < kc))) from by rw [hT2, HX.out]; rfl)
            obtain ⟨A6, c6, rfl⟩ := hu2.shape
            obtain ⟨l6, hl6⟩ : ∃ l, kx.length = l := ⟨_, rfl⟩
            rw [hl6] at hy3
            obtain ⟨ad3, u3, hadd, hx0, hx1, hx2, hx3, hu⟩ := HV.out.both (hc.alloc (.cells #[.int .i64 ks, .int .i64 kb, .int .i64 kc, .slice A6 l6 c6] 118)) i HI.out
            obtain rfl := Option.some.inj hadd
            rw [HX.out] at hx0 hx1 hx2 hu
            dsimp only at hx0 hx1 hx2 hu
            obtain ⟨A5, c5, rfl⟩ := hu.shape
            obtain ⟨l5, hl5⟩ : ∃ l, xs.length = l := ⟨_, rfl⟩
            rw [hl5] at hx3
            have hc3 : Ch nob w ((wr.alloc (.cells #[.int .i64 ks, .int .i64 kb, .int .i64 kc, .slice A6 l6 c6] 118)).alloc (.cells #[.int .i64 ts, .int .i64 tb, .int .i64 tc, .slice A5 l5 c5] 118)) := (hc.alloc _).alloc _
            have hno : apartB (hs.getD k txrZero) (hs.getD i txrZero) = false → Hid (mayH hs = false) := fun h => Lib.hid (may_apart HI.out hlt2 h)
            have HNO := Lib.hid hno
            clear hadd hadd2 hT2 hu hu2 hl5 hl6 hc hno
            cases h1 : (kb == tb) with
            | true =>
              have HF := HNO.out (by rw [HAP.out, h1]; rfl)
              go_wp2_with fail
              go_ret
              exact ⟨ret_bool HF.out.symm, hc3⟩
            | false =>
              cases h2 : (kb == tc) with
              | true =>
                have HF := HNO.out (by rw [HAP.out, h1, h2]; rfl)
                go_wp2_with fail
                go_ret
                exact ⟨ret_bool HF.out.symm, hc3⟩
              | false =>
                cases h3 : (kc == tb) with
                | true =>
                  have HF := HNO.out (by rw [HAP.out, h1, h2, h3]; rfl)
                  go_wp2_with fail
                  go_ret
                  exact ⟨ret_bool HF.out.symm, hc3⟩
                | false =>
                  cases h4 : (kc == tc) with
                  | true =>
                    have HF := HNO.out (by rw [HAP.out, h1, h2, h3, h4]; rfl)
                    go_wp2_with fail
                    go_ret
                    exact ⟨ret_bool HF.out.symm, hc3⟩
                  | false =>
                    have hyes : apartB (hs.getD k txrZero) (hs.getD i txrZero) = true → Hid (∀ j, j < k + 1 → apartB (hs.getD j txrZero) (hs.getD i txrZero) = true) := fun h => Lib.hid (fun j hj => by
                      by_cases e : j = k
                      · rw [e]; exact h
                      · exact hst2.out j (by omega))
                    have HYES := Lib.hid hyes
                    clear hyes
                    cases h5 : (ks == ts) with
                    | true =>
                      by_cases h6 : tb < kc
                      · have d6 : decide (tb < kc) = true := decide_eq_true h6
                        have HF := HNO.out (by rw [HAP.out, h1, h2, h3, h4, h5, d6]; rfl)
                        go_wp2_with fail
                        go_ret
                        exact ⟨ret_bool HF.out.symm, hc3⟩
                      · have d6 : decide (tb < kc) = false := decide_eq_false h6
                        have HT := HYES.out (by rw [HAP.out, h1, h2, h3, h4, h5, d6]; rfl)
                        go_wp2_with fail
                        go_roundw
                        case rel => exact ⟨k + 1, by go_num, by omega, HT, hc3⟩
                        case measure => simp [intOf]; omega
                    | false =>
                      have HT := HYES.out (by rw [HAP.out, h1, h2, h3, h4, h5]; rfl)
                      go_wp2_with fail
                      go_roundw
                      case rel => exact ⟨k + 1, by go_num, by omega, HT, hc3⟩
                      case measure => simp [intOf]; omega
          · have hd2 : decide ((k : Int) < (i : Int)) = false := decide_eq_false (by omega)
            have HAP := Lib.hid (show ∀ k, k < i → apartB (hs.getD k txrZero) (hs.getD i txrZero) = true from fun j hj => hst2.out j (by omega))
            go_wp2_with fail
            go_loopw [7] (fun x wr => ∃ j : Nat, x = .int .i64 j ∧ j ≤ l ∧ Hid (∀ q, q < j → opFine hs (xs.getD q opZero) = true) ∧ Ch nob w wr) (fun x _ => l - (intOf x).toNat)
            case atStart => exact ⟨0, rfl, Nat.zero_le _, Lib.hid (fun j hj => by omega), hc⟩
            case round =>
              clear hc
              obtain ⟨j, rfl, hj, hst3, hc⟩ := hrel
              obtain ⟨ad3, u3, hadd, hx0, hx1, hx2, hx3, hu⟩ := HV.out.both hc i HI.out
              obtain rfl := Option.some.inj hadd
              rw [HX.out] at hu
              dsimp only at hu
              obtain ⟨A5, c5, rfl⟩ := hu.shape
              rw [HL.out] at hx3 hu
              clear hadd hx0 hx1 hx2
              by_cases hlt3 : j < l
              · have hd3 : decide ((j : Int) < (l : Int)) = true := decide_eq_true (by omega)
                obtain ⟨ad4, rfl, hy0, hy1, hy2⟩ := (hu.keep hc).at.2.2 j (by rw [HL.out]; exact hlt3)
                obtain ⟨x, hx⟩ : ∃ x, xs.getD j opZero = x := ⟨_, rfl⟩
                rw [hx] at hy0 hy1 hy2
                obtain ⟨xw, xk, xv⟩ := x
                have hc3 := hc.alloc (.cells #[.bool xw, .int .i64 xk, .int .i64 xv] 121)
                have hcB : Ch nob wr (wr.alloc (.cells #[.bool xw, .int .i64 xk, .int .i64 xv] 121)) := (Ch.refl _ _).alloc _
                have HS := Lib.hid (show opFine hs (xs.getD j opZero) = (if xw then tmT hs xv hs.length == 1 else xv == 0 || hasWB hs xk xv) from by rw [hx]; rfl)
                have hno : opFine hs (xs.getD j opZero) = false → Hid (mayH hs = false) := fun h => Lib.hid (may_op HI.out (j := j) (by rw [HX.out]; show j < xs.length; rw [HL.out]; exact hlt3) (by rw [HX.out]; exact h))
                have HNO := Lib.hid hno
                have hyes : opFine hs (xs.getD j opZero) = true → Hid (∀ q, q < j + 1 → opFine hs (xs.getD q opZero) = true) := fun h => Lib.hid (fun q hq => by
                  by_cases e : q = j
                  · rw [e]; exact h
                  · exact hst3.out q (by omega))
                have HYES := Lib.hid hyes
                clear hx hno hyes hu hc
                cases xw with
                | true =>
                  have HT0 := Lib.hid (HTM.out _ xv hc3)
                  obtain ⟨tm, htm⟩ : ∃ tm, tmT hs xv hs.length = tm := ⟨_, rfl⟩
                  rw [htm] at HT0
                  have HTM2 := Lib.hid htm
                  clear htm HT0
                  have HT1 := Lib.hid (fun (wq : World) (hq : Ch nob w wq) => (show Calls Tryd.prog 134 #[.slice (some ad) n cp, .int .i64 xv] wq fun e w' => e = .returned (.int .i64 tm) ∧ wq = w' from by
                    have := HTM.out wq xv hq
                    rw [HTM2.out] at this
                    exact this))
                  cases h1 : ((tm : Int) != 1) with
                  | true =>
                    have HF := HNO.out (by
                      rw [HS.out, HTM2.out, if_pos rfl]
                      have h2 : ¬ (tm : Int) = 1 := by simpa using h1
                      exact beq_false_of_ne (by omega))
                    go_wp2_with fail
                    refine (HT1.out _ hc3).mono ?_
                    rintro e w2 ⟨rfl, rfl⟩
                    go_wp2_with fail
                    go_ret
                    exact ⟨ret_bool HF.out.symm, hc3⟩
                  | false =>
                    have HT := HYES.out (by
                      rw [HS.out, HTM2.out, if_pos rfl]
                      have h2 : (tm : Int) = 1 := by simpa using h1
                      exact beq_iff_eq.2 (by omega))
                    go_wp2_with fail
                    refine (HT1.out _ hc3).mono ?_
                    rintro e w2 ⟨rfl, rfl⟩
                    go_wp2_with fail
                    go_roundw
                    case rel => exact ⟨j + 1, by go_num, by omega, HT, hc3⟩
                    case measure => simp [intOf]; omega
                | false =>
                  cases h1 : (xv == 0) with
                  | true =>
                    have h2 : (xv != 0) = false := by unfold bne; rw [h1]; rfl
                    have HT := HYES.out (by rw [HS.out, h1]; rfl)
                    go_wp2_with fail
                    go_roundw
                    case rel => exact ⟨j + 1, by go_num, by omega, HT, hc3⟩
                    case measure => simp [intOf]; omega
                  | false =>
                    have h2 : (xv != 0) = true := by unfold bne; rw [h1]; rfl
                    go_wp2_with fail
                    refine (HWR.out _ xk xv hc3).mono ?_
                    rintro e w2 ⟨z, rfl, hz, hc4⟩
                    have hc5 := hc3.seq hc4
                    have HZ := Lib.hid (writer_neg hz)
                    clear hz
                    cases h3 : decide (z < 0) with
                    | true =>
                      have HF := HNO.out (by
                        rw [HS.out, h1]
                        have := HZ.out
                        rw [h3] at this
                        show (false || hasWB hs xk xv) = false
                        cases hh : hasWB hs xk xv with
                        | true => rw [hh] at this; cases this
                        | false => rfl)
                      go_wp2_with fail
                      go_ret
                      exact ⟨ret_bool HF.out.symm, hc5⟩
                    | false =>
                      have HT := HYES.out (by
                        rw [HS.out, h1]
                        have := HZ.out
                        rw [h3] at this
                        show (false || hasWB hs xk xv) = true
                        cases hh : hasWB hs xk xv with
                        | true => rfl
                        | false => rw [hh] at this; cases this)
                      go_wp2_with fail
                      go_roundw
                      case rel => exact ⟨j + 1, by go_num, by omega, HT, hc5⟩
                      case measure => simp [intOf]; omega
              · have hd3 : decide ((j : Int) < (l : Int)) = false := decide_eq_false (by omega)
                have HT := Lib.hid (show ∀ q, q < i + 1 → mayAt hs q = true from fun q hq => by
                  by_cases e : q = i
                  · rw [e]
                    exact may_yes HOK.out HAP.out (fun r hr => by
                      rw [HX.out] at hr ⊢
                      exact hst3.out r (by have h : r < xs.length := hr; rw [HL.out] at h; omega))
                  · exact hst.out q (by omega))
                go_wp2_with fail
                go_roundw
                case rel => exact ⟨i + 1, by go_num, by omega, HT, hc⟩
                case measure => simp [intOf]; omega
    · have hd : decide ((i : Int) < (n : Int)) = false := decide_eq_false (by omega)
      have HF := Lib.hid (show mayH hs = true from all_yes (fun j hj => hst.out j (by have := HN.out; omega)))
      go_wp2_with fail
      go_ret
      exact ⟨ret_bool HF.out.symm, hc⟩
end Go.Proofs.YtlhfpnkfapghoaaDoor
end

section
/- What the program says of a history is what the document says: in plain words. No condition but each theorem's own. -/
set_option linter.unusedVariables false
set_option linter.unusedSimpArgs false
namespace Go.Proofs.YtlhfpnkfapghoaaDoor
open Go.RowKit Go.Maps

def b2n (b : Bool) : Nat := if b then 1 else 0
theorem tmN_pos {xs : List Opn} {v : Int} : ∀ {j q : Nat}, q < j → isW v (xs.getD q opZero) = true → 1 ≤ tmN xs v j
  | 0, q, h, _ => by omega
  | j + 1, q, h, hw => by
    unfold tmN
    by_cases e : q = j
    · subst e; rw [if_pos hw]; omega
    · have := tmN_pos (j := j) (show q < j by omega) hw; omega
theorem tmN_ex {xs : List Opn} {v : Int} : ∀ {j : Nat}, 1 ≤ tmN xs v j → ∃ q, q < j ∧ isW v (xs.getD q opZero) = true
  | 0, h => by simp [tmN] at h
  | j + 1, h => by
    by_cases e : isW v (xs.getD j opZero) = true
    · exact ⟨j, by omega, e⟩
    · unfold tmN at h
      rw [if_neg e] at h
      obtain ⟨q, h1, h2⟩ := tmN_ex (j := j) (by omega)
      exact ⟨q, by omega, h2⟩
theorem tmN_one {xs : List Opn} {v : Int} : ∀ {j q r : Nat}, tmN xs v j ≤ 1 → q < j → r < j → isW v (xs.getD q opZero) = true → isW v (xs.getD r opZero) = true → q = r
  | 0, _, _, _, h, _, _, _ => by omega
  | j + 1, q, r, h, hq, hr, h1, h2 => by
    unfold tmN at h
    by_cases e : isW v (xs.getD j opZero) = true
    · rw [if_pos e] at h
      by_cases e1 : q = j
      · by_cases e2 : r = j
        · omega
        · have := tmN_pos (j := j) (show r < j by omega) h2; omega
      · have := tmN_pos (j := j) (show q < j by omega) h1; omega
    · have e1 : q ≠ j := fun e1 => e (by rw [← e1]; exact h1)
      have e2 : r ≠ j := fun e2 => e (by rw [← e2]; exact h2)
      exact tmN_one (j := j) (by omega) (by omega) (by omega) h1 h2
theorem tmN_mono {xs : List Opn} {v : Int} {i j : Nat} (h : i ≤ j) : tmN xs v i ≤ tmN xs v j := by
  induction j with
  | zero => obtain rfl : i = 0 := by omega
            exact Nat.le_refl _
  | succ j ih =>
    by_cases e : i = j + 1
    · rw [e]; exact Nat.le_refl _
    · have := ih (by omega)
      show _ ≤ tmN xs v j + _
      omega
theorem tmT_mono {hs : List Txr} {v : Int} {i j : Nat} (h : i ≤ j) : tmT hs v i ≤ tmT hs v j := by
  induction j with
  | zero => obtain rfl : i = 0 := by omega
            exact Nat.le_refl _
  | succ j ih =>
    by_cases e : i = j + 1
    · rw [e]; exact Nat.le_refl _
    · have := ih (by omega)
      show _ ≤ tmT hs v j + _
      omega
theorem tmT_pos {hs : List Txr} {v : Int} {i t : Nat} (ht : t < i) : tmN (hs.getD t txrZero).ops v (hs.getD t txrZero).ops.length ≤ tmT hs v i := by
  have h1 := tmT_mono (hs := hs) (v := v) (show t + 1 ≤ i by omega)
  have h2 : tmT hs v (t + 1) = tmT hs v t + tmN (hs.getD t txrZero).ops v (hs.getD t txrZero).ops.length := rfl
  omega
theorem tmT_ex {hs : List Txr} {v : Int} : ∀ {i : Nat}, 1 ≤ tmT hs v i → ∃ t, t < i ∧ 1 ≤ tmN (hs.getD t txrZero).ops v (hs.getD t txrZero).ops.length
  | 0, h => by simp [tmT] at h
  | i + 1, h => by
    by_cases e : 1 ≤ tmN (hs.getD i txrZero).ops v (hs.getD i txrZero).ops.length
    · exact ⟨i, by omega, e⟩
    · have h' : 1 ≤ tmT hs v i + tmN (hs.getD i txrZero).ops v (hs.getD i txrZero).ops.length := h
      obtain ⟨t, h1, h2⟩ := tmT_ex (i := i) (show 1 ≤ tmT hs v i by omega)
      exact ⟨t, by omega, h2⟩
theorem tmT_one {hs : List Txr} {v : Int} : ∀ {i t u : Nat}, tmT hs v i ≤ 1 → t < i → u < i → 1 ≤ tmN (hs.getD t txrZero).ops v (hs.getD t txrZero).ops.length → 1 ≤ tmN (hs.getD u txrZero).ops v (hs.getD u txrZero).ops.length → t = u
  | 0, _, _, _, h, _, _, _ => by omega
  | i + 1, t, u, h, ht, hu, h1, h2 => by
    unfold tmT at h
    by_cases e1 : t = i
    · by_cases e2 : u = i
      · omega
      · have := tmT_pos (hs := hs) (v := v) (show u < i by omega)
        rw [e1] at h1
        omega
    · by_cases e2 : u = i
      · have := tmT_pos (hs := hs) (v := v) (show t < i by omega)
        rw [e2] at h2
        omega
      · exact tmT_one (i := i) (by omega) (by omega) (by omega) h1 h2
theorem isWK_isW {k v : Int} {x : Opn} (h : isWK k v x = true) : isW v x = true ∧ x.key = k := by
  unfold isWK at h
  unfold isW
  simp only [Bool.and_eq_true, beq_iff_eq] at h ⊢
  exact ⟨⟨h.1, h.2.2⟩, h.2.1⟩
theorem isW_isWK {v : Int} {x : Opn} (h : isW v x = true) : isWK x.key v x = true := by
  unfold isW at h
  unfold isWK
  simp only [Bool.and_eq_true, beq_iff_eq] at h ⊢
  exact ⟨h.1, trivial, h.2⟩
theorem wroteB_ex {xs : List Opn} {k v : Int} (h : wroteB xs k v = true) : ∃ q, q < xs.length ∧ isWK k v (xs.getD q opZero) = true := by
  unfold wroteB at h
  rw [List.any_eq_true] at h
  obtain ⟨q, h1, h2⟩ := h
  exact ⟨q, List.mem_range.1 h1, h2⟩
/-- What is written down. -/
structure GoodH (hs : List Txr) (i : Nat) (M : WM) : Prop where
  cnt : ∀ v, b2n (M v).isSome = tmT hs v i
  wr : ∀ v y, M v = some y → ∃ t : Nat, t < i ∧ y.txn = t ∧ wroteB (hs.getD t txrZero).ops y.key v = true ∧ y.last = isLast (hs.getD t txrZero).ops v
structure GoodO (t : Nat) (xs : List Opn) (M : WM) (j : Nat) (N : WM) : Prop where
  cnt : ∀ v, b2n (N v).isSome = b2n (M v).isSome + tmN xs v j
  wr : ∀ v y, N v = some y → (M v = some y ∧ tmN xs v j = 0) ∨ (y.txn = t ∧ y.last = false ∧ ∃ q, q < j ∧ isWK y.key v (xs.getD q opZero) = true)
theorem goodO {t : Nat} {xs : List Opn} {M : WM} : ∀ {j : Nat} {N : WM}, opsF t xs M j = some N → GoodO t xs M j N
  | 0, N, h => by
    cases h
    exact ⟨fun v => (by first | trivial | rfl), fun v y h => .inl (by first | exact ⟨h, rfl⟩ | exact h | exact ⟨h, trivial⟩)⟩
  | j + 1, N, h => by
    unfold opsF at h
    cases h0 : opsF t xs M j with
    | none => rw [h0] at h; cases h
    | some N0 =>
      have ih := goodO h0
      rw [h0, Option.bind_some] at h
      obtain ⟨x, hx⟩ : ∃ x, xs.getD j opZero = x := ⟨_, rfl⟩
      rw [hx] at h
      have hs : ∀ v, tmN xs v (j + 1) = tmN xs v j + if isW v x then 1 else 0 := fun v => by rw [← hx]; rfl
      by_cases hw : x.wr = true
      · rw [if_pos hw] at h
        split at h
        · cases h
        · rename_i hn
          cases h
          have hno : N0 x.val = none := by
            cases e : N0 x.val with
            | none => rfl
            | some y => rw [e] at hn; exact absurd rfl hn
          refine ⟨fun v => ?_, fun v y hy => ?_⟩
          · rw [hs]
            have h1 := ih.cnt v
            unfold putW isW
            by_cases e : v = x.val
            · subst e
              rw [hno] at h1
              rw [if_pos rfl, hw, beq_self_eq_true]
              simp [b2n] at h1 ⊢
              omega
            · rw [if_neg e, if_neg (by simp; exact fun _ e2 => e e2.symm)]
              omega
          · unfold putW at hy
            by_cases e : v = x.val
            · subst e
              rw [if_pos rfl] at hy
              cases hy
              refine .inr ⟨rfl, rfl, j, by omega, ?_⟩
              rw [hx]
              exact isW_isWK (by unfold isW; rw [hw]; simp)
            · rw [if_neg e] at hy
              rcases ih.wr v y hy with ⟨h1, h2⟩ | ⟨h1, h2, q, h3, h4⟩
              · refine .inl ⟨h1, ?_⟩
                rw [hs, h2, if_neg (by unfold isW; simp; exact fun _ e2 => e e2.symm)]
              · exact .inr ⟨h1, h2, q, by omega, h4⟩
      · rw [if_neg hw] at h
        cases h
        have hz : ∀ v, (if isW v x then 1 else 0) = 0 := fun v => by rw [if_neg]; unfold isW; simp [hw]
        refine ⟨fun v => ?_, fun v y hy => ?_⟩
        · rw [hs, hz]; exact ih.cnt v
        · rcases ih.wr v y hy with ⟨h1, h2⟩ | ⟨h1, h2, q, h3, h4⟩
          · exact .inl ⟨h1, by rw [hs, hz, h2]⟩
          · exact .inr ⟨h1, h2, q, by omega, h4⟩
theorem isLast_tm {xs : List Opn} {v : Int} (h : isLast xs v = true) : 1 ≤ tmN xs v xs.length := by
  rw [isLast_iff] at h
  obtain ⟨o, h1, h2⟩ := h
  obtain ⟨q, h3, h4⟩ := lastW_in h2
  refine tmN_pos h3 ?_
  rw [h4]
  unfold isW
  rw [(lastW_mem (Nat.le_refl _) h2).2.1, h1]
  simp
theorem goodH {hs : List Txr} : ∀ {i : Nat} {M : WM}, histF hs i = some M → GoodH hs i M
  | 0, M, h => by
    cases h
    exact ⟨fun v => rfl, fun v y h => by cases h⟩
  | i + 1, M', h => by
    unfold histF at h
    cases h0 : histF hs i with
    | none => rw [h0] at h; cases h
    | some M =>
      have ih := goodH h0
      rw [h0, Option.bind_some] at h
      obtain ⟨xs, hxs⟩ : ∃ xs, (hs.getD i txrZero).ops = xs := ⟨_, rfl⟩
      rw [hxs] at h
      unfold txnF at h
      cases h1 : opsF i xs M xs.length with
      | none => rw [h1] at h; cases h
      | some N =>
        rw [h1, Option.map_some] at h
        cases h
        have g := goodO h1
        have hT : ∀ v, tmT hs v (i + 1) = tmT hs v i + tmN xs v xs.length := fun v => by rw [← hxs]; rfl
        have hsome : ∀ v, isLast xs v = true → (N v).isSome = true := fun v h => by
          have h2 := isLast_tm h
          have h3 := g.cnt v
          cases e : (N v).isSome with
          | true => rfl
          | false => rw [e] at h3; simp [b2n] at h3; omega
        refine ⟨fun v => ?_, fun v y hy => ?_⟩
        · rw [hT, ← ih.cnt v, ← g.cnt v]
          unfold markF
          split
          · rename_i hp
            rw [hsome v hp]; rfl
          · rfl
        · unfold markF at hy
          split at hy
          · rename_i hp
            have h2 := isLast_tm hp
            obtain ⟨y0, h3⟩ := Option.isSome_iff_exists.1 (hsome v hp)
            rw [h3, Option.getD_some] at hy
            cases hy
            rcases g.wr v y0 h3 with ⟨_, h4⟩ | ⟨h4, h5, q, h6, h7⟩
            · omega
            · refine ⟨i, by omega, h4, ?_, ?_⟩
              · rw [hxs]; exact any_yes h6 h7
              · rw [hxs, hp]
          · rename_i hp
            rcases g.wr v y hy with ⟨h4, _⟩ | ⟨h4, h5, q, h6, h7⟩
            · obtain ⟨t, h5, h6⟩ := ih.wr v y h4
              exact ⟨t, by omega, h6⟩
            · refine ⟨i, by omega, h4, ?_, ?_⟩
              · rw [hxs]; exact any_yes h6 h7
              · rw [hxs, h5]; exact (Bool.not_eq_true _ ▸ hp).symm
theorem opsF_fail {t : Nat} {xs : List Opn} {M : WM} : ∀ {j : Nat}, opsF t xs M j = none → ∃ q v, q < j ∧ isW v (xs.getD q opZero) = true ∧ 2 ≤ b2n (M v).isSome + tmN xs v j
  | 0, h => by cases h
  | j + 1, h => by
    cases h0 : opsF t xs M j with
    | none =>
      obtain ⟨q, v, h1, h2, h3⟩ := opsF_fail h0
      exact ⟨q, v, by omega, h2, Nat.le_trans h3 (Nat.add_le_add_left (tmN_mono (Nat.le_succ j)) _)⟩
    | some N =>
      have g := goodO h0
      unfold opsF at h
      rw [h0, Option.bind_some] at h
      obtain ⟨x, hx⟩ : ∃ x, xs.getD j opZero = x := ⟨_, rfl⟩
      rw [hx] at h
      split at h
      · rename_i hw
        split at h
        · rename_i hn
          refine ⟨j, x.val, by omega, by rw [hx]; unfold isW; rw [hw]; simp, ?_⟩
          have h1 := g.cnt x.val
          rw [hn] at h1
          have h2 : tmN xs x.val (j + 1) = tmN xs x.val j + if isW x.val x then 1 else 0 := by rw [← hx]; rfl
          rw [h2, if_pos (by unfold isW; rw [hw]; simp)]
          simp [b2n] at h1 ⊢
          omega
        · cases h
      · cases h
theorem histF_fail {hs : List Txr} : ∀ {i : Nat}, histF hs i = none → ∃ t q v, t < i ∧ q < (hs.getD t txrZero).ops.length ∧ isW v ((hs.getD t txrZero).ops.getD q opZero) = true ∧ 2 ≤ tmT hs v i
  | 0, h => by cases h
  | i + 1, h => by
    cases h0 : histF hs i with
    | none =>
      obtain ⟨t, q, v, h1, h2, h3, h4⟩ := histF_fail h0
      exact ⟨t, q, v, by omega, h2, h3, Nat.le_trans h4 (tmT_mono (Nat.le_succ i))⟩
    | some M =>
      unfold histF at h
      rw [h0, Option.bind_some] at h
      unfold txnF at h
      cases h1 : opsF i (hs.getD i txrZero).ops M (hs.getD i txrZero).ops.length with
      | some N => rw [h1] at h; cases h
      | none =>
        obtain ⟨q, v, h2, h3, h4⟩ := opsF_fail h1
        refine ⟨i, q, v, by omega, h2, h3, ?_⟩
        rw [(goodH h0).cnt v] at h4
        exact h4
/-- Each value is written once, just if all are written down. -/
theorem hist_some {hs : List Txr} : (∃ M, histF hs hs.length = some M) ↔ ∀ t q, t < hs.length → q < (hs.getD t txrZero).ops.length → ((hs.getD t txrZero).ops.getD q opZero).wr = true → tmT hs ((hs.getD t txrZero).ops.getD q opZero).val hs.length = 1 := by
  constructor
  · rintro ⟨M, h⟩ t q ht hq hw
    have g := (goodH h).cnt ((hs.getD t txrZero).ops.getD q opZero).val
    have h1 := tmN_pos (v := ((hs.getD t txrZero).ops.getD q opZero).val) hq (by unfold isW; rw [hw]; simp)
    have h2 := tmT_pos (hs := hs) (v := ((hs.getD t txrZero).ops.getD q opZero).val) ht
    unfold b2n at g
    split at g <;> omega
  · intro h
    cases e : histF hs hs.length with
    | some M => exact ⟨M, rfl⟩
    | none =>
      obtain ⟨t, q, v, h1, h2, h3, h4⟩ := histF_fail e
      have h5 : ((hs.getD t txrZero).ops.getD q opZero).wr = true ∧ ((hs.getD t txrZero).ops.getD q opZero).val = v := by
        unfold isW at h3; simpa using h3
      have := h t q h1 h2 h5.1
      rw [h5.2] at this
      omega
theorem wrote_tm {xs : List Opn} {k v : Int} (h : wroteB xs k v = true) : 1 ≤ tmN xs v xs.length := by
  obtain ⟨q, h1, h2⟩ := wroteB_ex h
  exact tmN_pos h1 (isWK_isW h2).1
theorem one_key {hs : List Txr} {M : WM} (h : histF hs hs.length = some M) {k l v : Int} {t u : Nat} (ht : t < hs.length) (hu : u < hs.length) (h1 : wroteB (hs.getD t txrZero).ops k v = true) (h2 : wroteB (hs.getD u txrZero).ops l v = true) : t = u ∧ k = l := by
  have hle : tmT hs v hs.length ≤ 1 := by have g := (goodH h).cnt v; unfold b2n at g; split at g <;> omega
  have e := tmT_one hle ht hu (wrote_tm h1) (wrote_tm h2)
  subst e
  refine ⟨rfl, ?_⟩
  obtain ⟨q, h3, h4⟩ := wroteB_ex h1
  obtain ⟨r, h5, h6⟩ := wroteB_ex h2
  have h7 := tmN_one (Nat.le_trans (tmT_pos (v := v) ht) hle) h3 h5 (isWK_isW h4).1 (isWK_isW h6).1
  subst h7
  rw [← (isWK_isW h4).2, ← (isWK_isW h6).2]
theorem read_is {hs : List Txr} {M : WM} (h : histF hs hs.length = some M) (x : Opn) (hw : x.wr = false) : readOk M x = (x.val == 0 || hasWB hs x.key x.val) := by
  unfold readOk
  rw [hw, Bool.false_or]
  congr 1
  have g := goodH h
  rw [Bool.eq_iff_iff]
  constructor
  · intro h1
    cases e : M x.val with
    | none => rw [e] at h1; cases h1
    | some y =>
      rw [e] at h1
      have e2 : y.key = x.key := by simpa using h1
      obtain ⟨t, h2, _, h4, _⟩ := g.wr _ _ e
      rw [e2] at h4
      exact any_yes (p := fun i => wroteB (hs.getD i txrZero).ops x.key x.val) h2 h4
  · intro h1
    unfold hasWB at h1
    rw [List.any_eq_true] at h1
    obtain ⟨t, ht, h2⟩ := h1
    have ht := List.mem_range.1 ht
    have h3 := g.cnt x.val
    have h4 := wrote_tm h2
    have h5 := tmT_pos (hs := hs) (v := x.val) ht
    cases e : M x.val with
    | none => rw [e] at h3; simp [b2n] at h3; omega
    | some y =>
      obtain ⟨u, h6, _, h8, _⟩ := g.wr _ _ e
      have := (one_key h ht h6 h2 h8).2
      show (y.key == x.key) = true
      rw [this]
      exact beq_self_eq_true _

/-! ### Stamps -/
structure GoodS (hs : List Txr) (i : Nat) (S : St) : Prop where
  seen : ∀ v, S.seen v = true ↔ ∃ k, k < i ∧ ((hs.getD k txrZero).beg = v ∨ (hs.getD k txrZero).com = v)
  some : ∀ s e, S.last s = some e → (∃ k, k < i ∧ (hs.getD k txrZero).ses = s ∧ (hs.getD k txrZero).com = e) ∧ ∀ k, k < i → (hs.getD k txrZero).ses = s → (hs.getD k txrZero).com ≤ e
  none : ∀ s, S.last s = none → ∀ k, k < i → (hs.getD k txrZero).ses ≠ s
  apart : ∀ m, m < i → ∀ k, k < m → apartB (hs.getD k txrZero) (hs.getD m txrZero) = true
theorem apart_iff (a b : Txr) : apartB a b = true ↔ (a.beg ≠ b.beg ∧ a.beg ≠ b.com ∧ a.com ≠ b.beg ∧ a.com ≠ b.com) ∧ (a.ses = b.ses → a.com ≤ b.beg) := by
  unfold apartB
  simp only [Bool.and_eq_true, Bool.not_eq_true', Bool.or_eq_false_iff, beq_eq_false_iff_ne, Bool.and_eq_false_iff, decide_eq_false_iff_not]
  constructor
  · rintro ⟨⟨h1, h2, h3, h4⟩, h5⟩
    refine ⟨⟨h1, h2, h3, h4⟩, fun e => ?_⟩
    rcases h5 with h5 | h5
    · exact absurd e h5
    · omega
  · rintro ⟨⟨h1, h2, h3, h4⟩, h5⟩
    refine ⟨⟨h1, h2, h3, h4⟩, ?_⟩
    by_cases e : a.ses = b.ses
    · right; have := h5 e; omega
    · left; exact e
theorem step_iff {hs : List Txr} {i : Nat} {S : St} (g : GoodS hs i S) (hb : (hs.getD i txrZero).beg < (hs.getD i txrZero).com) : (S.seen (hs.getD i txrZero).beg || addB S.seen (hs.getD i txrZero).beg (hs.getD i txrZero).com || overB (S.last (hs.getD i txrZero).ses) (hs.getD i txrZero).beg) = false ↔ ∀ k, k < i → apartB (hs.getD k txrZero) (hs.getD i txrZero) = true := by
  obtain ⟨t, ht⟩ : ∃ t, hs.getD i txrZero = t := ⟨_, rfl⟩
  rw [ht] at hb ⊢
  rw [Bool.or_eq_false_iff, Bool.or_eq_false_iff]
  have hs1 : S.seen t.beg = false ↔ ∀ k, k < i → (hs.getD k txrZero).beg ≠ t.beg ∧ (hs.getD k txrZero).com ≠ t.beg := by
    rw [← Bool.not_eq_true, g.seen]
    constructor
    · intro h k hk
      exact ⟨fun e => h ⟨k, hk, .inl e⟩, fun e => h ⟨k, hk, .inr e⟩⟩
    · rintro h ⟨k, hk, e | e⟩
      · exact (h k hk).1 e
      · exact (h k hk).2 e
  have hs2 : addB S.seen t.beg t.com = false ↔ ∀ k, k < i → (hs.getD k txrZero).beg ≠ t.com ∧ (hs.getD k txrZero).com ≠ t.com := by
    unfold addB
    rw [Bool.or_eq_false_iff, ← Bool.not_eq_true (S.seen t.com), g.seen]
    constructor
    · rintro ⟨_, h⟩ k hk
      exact ⟨fun e => h ⟨k, hk, .inl e⟩, fun e => h ⟨k, hk, .inr e⟩⟩
    · intro h
      refine ⟨beq_false_of_ne (by omega), ?_⟩
      rintro ⟨k, hk, e | e⟩
      · exact (h k hk).1 e
      · exact (h k hk).2 e
  have hs3 : overB (S.last t.ses) t.beg = false ↔ ∀ k, k < i → (hs.getD k txrZero).ses = t.ses → (hs.getD k txrZero).com ≤ t.beg := by
    cases e : S.last t.ses with
    | none =>
      constructor
      · intro _ k hk h
        exact absurd h (g.none _ e k hk)
      · intro _; rfl
    | some c =>
      obtain ⟨⟨k0, h1, h2, h3⟩, h4⟩ := g.some _ _ e
      show decide (t.beg < c) = false ↔ _
      rw [decide_eq_false_iff_not]
      constructor
      · intro h k hk h5
        have := h4 k hk h5
        omega
      · intro h
        have := h k0 h1 h2
        omega
  rw [hs1, hs2, hs3]
  constructor
  · rintro ⟨⟨h1, h2⟩, h3⟩ k hk
    rw [apart_iff]
    exact ⟨⟨(h1 k hk).1, (h2 k hk).1, (h1 k hk).2, (h2 k hk).2⟩, h3 k hk⟩
  · intro h
    have h' := fun k hk => (apart_iff _ _).1 (h k hk)
    exact ⟨⟨fun k hk => ⟨(h' k hk).1.1, (h' k hk).1.2.2.1⟩, fun k hk => ⟨(h' k hk).1.2.1, (h' k hk).1.2.2.2⟩⟩, fun k hk => (h' k hk).2⟩
theorem goodS {hs : List Txr} (hb : ∀ k, k < hs.length → (hs.getD k txrZero).beg < (hs.getD k txrZero).com) : ∀ {i : Nat} {S : St}, i ≤ hs.length → stF hs i = some S → GoodS hs i S
  | 0, S, _, h => by
    cases h
    exact ⟨fun v => ⟨fun h => (by cases h), fun ⟨k, h, _⟩ => (by omega)⟩, fun s e h => (by cases h), fun s _ k hk => (by omega), fun m hm => (by omega)⟩
  | i + 1, S', hi, h => by
    unfold stF at h
    cases h0 : stF hs i with
    | none => rw [h0] at h; cases h
    | some S =>
      have g := goodS hb (by omega) h0
      rw [h0, Option.bind_some] at h
      have hstep := step_iff g (hb i (by omega))
      have hbi := hb i (by omega)
      obtain ⟨t, ht⟩ : ∃ t, hs.getD i txrZero = t := ⟨_, rfl⟩
      rw [ht] at h hstep hbi
      unfold stStep at h
      split at h
      · cases h
      · rename_i hno
        cases h
        have hap := hstep.1 (Bool.not_eq_true _ ▸ hno)
        refine ⟨fun v => ?_, fun s e he => ?_, fun s he k hk => ?_, fun m hm k hk => ?_⟩
        · show addB (addB S.seen t.beg) t.com v = true ↔ _
          unfold addB
          rw [Bool.or_eq_true, Bool.or_eq_true, g.seen]
          constructor
          · rintro (h | h | ⟨k, h1, h2⟩)
            · exact ⟨i, by omega, .inr (by rw [ht]; exact (beq_iff_eq.1 h).symm)⟩
            · exact ⟨i, by omega, .inl (by rw [ht]; exact (beq_iff_eq.1 h).symm)⟩
            · exact ⟨k, by omega, h2⟩
          · rintro ⟨k, h1, h2⟩
            by_cases e : k = i
            · subst e
              rw [ht] at h2
              rcases h2 with h2 | h2
              · exact .inr (.inl (beq_iff_eq.2 h2.symm))
              · exact .inl (beq_iff_eq.2 h2.symm)
            · exact .inr (.inr ⟨k, by omega, h2⟩)
        · have he : putI S.last t.ses t.com s = some e := he
          unfold putI at he
          split at he
          · rename_i hs1
            cases he
            refine ⟨⟨i, by omega, by rw [ht]; exact hs1.symm, by rw [ht]⟩, fun k hk h2 => ?_⟩
            by_cases e : k = i
            · subst e; rw [ht]; exact Int.le_refl _
            · have := ((apart_iff _ _).1 (hap k (by omega))).2 (by rw [h2]; exact hs1)
              omega
          · rename_i hs1
            obtain ⟨⟨k0, h1, h2⟩, h3⟩ := g.some _ _ he
            refine ⟨⟨k0, by omega, h2⟩, fun k hk h4 => ?_⟩
            by_cases e : k = i
            · subst e; rw [ht] at h4; exact absurd h4.symm hs1
            · exact h3 k (by omega) h4
        · have he : putI S.last t.ses t.com s = none := he
          unfold putI at he
          split at he
          · cases he
          · rename_i hs1
            by_cases e : k = i
            · subst e; rw [ht]; exact fun h => hs1 h.symm
            · exact g.none _ he k (by omega)
        · by_cases e : m = i
          · subst e; rw [ht]; exact hap k hk
          · exact g.apart m (by omega) k hk
theorem st_some {hs : List Txr} (hb : ∀ k, k < hs.length → (hs.getD k txrZero).beg < (hs.getD k txrZero).com) : (stF hs hs.length).isSome = true ↔ ∀ m, m < hs.length → ∀ k, k < m → apartB (hs.getD k txrZero) (hs.getD m txrZero) = true := by
  constructor
  · intro h
    obtain ⟨S, h⟩ := Option.isSome_iff_exists.1 h
    exact (goodS hb (Nat.le_refl _) h).apart
  · intro h
    have : ∀ i, i ≤ hs.length → ∃ S, stF hs i = some S := by
      intro i
      induction i with
      | zero => intro _; exact ⟨_, rfl⟩
      | succ i ih =>
        intro hi
        obtain ⟨S, hS⟩ := ih (by omega)
        exact ⟨_, stF_yes hS rfl ((step_iff (goodS hb (by omega) hS) (hb i (by omega))).2 (h i (by omega)))⟩
    obtain ⟨S, hS⟩ := this _ (Nat.le_refl _)
    rw [hS]; rfl

/-! ### Both -/
theorem txnOk_bc {t : Txr} (h : txrOkB t = true) : t.beg < t.com := by
  unfold txrOkB txnOk headOk at h
  simp only [Bool.and_eq_true, decide_eq_true_eq] at h
  omega
theorem all_iff {p : Nat → Bool} {n : Nat} : (List.range n).all p = true ↔ ∀ j, j < n → p j = true := by
  rw [List.all_eq_true]
  exact ⟨fun h j hj => h j (List.mem_range.2 hj), fun h j hj => h j (List.mem_range.1 hj)⟩
def docH (hs : List Txr) : Int := if bigB hs then 3 else if mayH hs then 0 else 2
theorem may_iff (hs : List Txr) : mayH hs = true ↔ allTxn hs = true ∧ (∀ m, m < hs.length → ∀ k, k < m → apartB (hs.getD k txrZero) (hs.getD m txrZero) = true) ∧ ∀ m, m < hs.length → ∀ j, j < (hs.getD m txrZero).ops.length → opFine hs ((hs.getD m txrZero).ops.getD j opZero) = true := by
  unfold mayH allTxn
  rw [all_iff, all_iff]
  constructor
  · intro h
    have h2 := fun m hm => by
      have := h m hm
      unfold mayAt at this
      rw [Bool.and_eq_true, Bool.and_eq_true, all_iff, all_iff] at this
      exact this
    exact ⟨fun m hm => (h2 m hm).1, fun m hm => (h2 m hm).2.1, fun m hm => (h2 m hm).2.2⟩
  · rintro ⟨h1, h2, h3⟩ m hm
    exact may_yes (h1 m hm) (h2 m hm) (h3 m hm)
theorem check_is (hs : List Txr) : chkH hs = docH hs := by
  unfold docH
  cases hb : bigB hs with
  | true => rw [chk_big hb]; rfl
  | false =>
    rw [if_neg (by decide)]
    by_cases hm : mayH hs = true
    · rw [if_pos hm]
      obtain ⟨h1, h2, h3⟩ := (may_iff hs).1 hm
      have hbc : ∀ k, k < hs.length → (hs.getD k txrZero).beg < (hs.getD k txrZero).com := fun k hk => txnOk_bc (all_iff.1 h1 k hk)
      obtain ⟨M, hM⟩ := hist_some.2 (fun t q ht hq hw => by
        have := h3 t ht q hq
        unfold opFine at this
        rw [if_pos hw] at this
        exact beq_iff_eq.1 this)
      refine chk_ok hb h1 hM ((st_some hbc).2 h2) ?_
      unfold allReads
      rw [all_iff]
      intro i hi
      unfold readsOk
      rw [all_iff]
      intro j hj
      cases hw : ((hs.getD i txrZero).ops.getD j opZero).wr with
      | true => unfold readOk; rw [hw]; rfl
      | false =>
        rw [read_is hM _ hw]
        have := h3 i hi j hj
        unfold opFine at this
        rw [hw] at this
        exact this
    · rw [if_neg hm]
      cases h1 : allTxn hs with
      | false => exact chk_txn hb h1
      | true =>
        have hbc : ∀ k, k < hs.length → (hs.getD k txrZero).beg < (hs.getD k txrZero).com := fun k hk => txnOk_bc (all_iff.1 h1 k hk)
        cases hM : histF hs hs.length with
        | none => exact chk_twice hb hM
        | some M =>
          cases h2 : (stF hs hs.length).isSome with
          | false => exact chk_st hb hM h2
          | true =>
            refine chk_read hb hM ?_
            rw [← Bool.not_eq_true]
            intro h3
            apply hm
            rw [may_iff]
            refine ⟨h1, (st_some hbc).1 h2, fun m hm j hj => ?_⟩
            unfold opFine
            cases hw : ((hs.getD m txrZero).ops.getD j opZero).wr with
            | true =>
              rw [if_pos rfl]
              exact beq_iff_eq.2 (hist_some.1 ⟨M, hM⟩ m j hm hj hw)
            | false =>
              have h4 := all_iff.1 (all_iff.1 h3 m hm) j hj
              rw [read_is hM _ hw] at h4
              exact h4
end Go.Proofs.YtlhfpnkfapghoaaDoor
end

section
/- Slices of operations and of transactions that came in read as lists; their lengths are bounded by the row's own reach. No condition. -/
set_option linter.unusedVariables false
set_option linter.unusedSimpArgs false
namespace Go.Proofs.YtlhfpnkfapghoaaDoor
open Go.RowKit Go.ChangeShapes Go.WideShapes Go.Deep

theorem weights_all {H : Type} {P : Program} {e : TypeId} : ∀ {l : List (DataW H)} {d : DataW H}, d ∈ l → ∀ n ∈ d.weights P e, n ∈ DataW.weightsAll P e l
  | [], d, h, _, _ => by cases h
  | d0 :: r, d, h, n, hn => by
    simp only [DataW.weightsAll, List.mem_append]
    rcases List.mem_cons.1 h with rfl | h
    · exact Or.inl hn
    · exact Or.inr (weights_all h n hn)
theorem bytes_op : Tryd.prog.bytesOf 121 = 24 := by kernel_rfl
theorem bytes_txn : Tryd.prog.bytesOf 118 = 48 := by kernel_rfl
theorem under_txns : Tryd.prog.underlying 22 = some (.slice 118) := by kernel_rfl
set_option maxRecDepth 100000 in
theorem ops_open2 {H : Type} {enc : TypeId × Value → H} {W : World} {base : Nat} {spare : Nat → Bool} {held : Bool} {fuel : Nat} {v : Value} {x : DataW H × List MemPlace}
    (h : DataW.trod enc Tryd.prog W base spare held fuel 116 [v] = some x) (hw : ∀ n ∈ x.1.weights Tryd.prog 116, n ≤ reachBytes) : ∃ xs, Opl W v xs ∧ OpsOk xs ∧ xs.length ≤ reachBytes := by
  rcases open_slice under_ops h with ⟨hcs, _⟩ | ⟨a, l, c, m, n, D, Pl, hcs, _, hl, hm, hmm, hxx, hx⟩
  · simp at hcs
    subst hcs
    exact ⟨[], Opl.nil _ _ _, ⟨fun i hi => by simp at hi, fun i hi => by simp at hi⟩, by simp⟩
  · simp at hcs
    subst hcs
    have hlm : l ≤ m := by rw [hmm]; split <;> omega
    have hlen : l ≤ reachBytes := by
      rw [hxx] at hw
      have := hw ((l + (m - l)) * 24) (by simp [DataW.weights, under_ops, bytes_op])
      omega
    have cb : Tryd.prog.cellsOf 4 = 1 := by kernel_rfl
    have ci : Tryd.prog.cellsOf 3 = 1 := by kernel_rfl
    have ub : Tryd.prog.underlying 4 = some .bool := by kernel_rfl
    have ce : Tryd.prog.cellsOf 121 = 3 := by kernel_rfl
    have each : ∀ i, i < l → ∃ y : Opn, W.cell? (a.add (i * 3)) = some (.bool y.wr) ∧ W.cell? (a.add (i * 3 + 1)) = some (.int .i64 y.key) ∧ W.cell? (a.add (i * 3 + 2)) = some (.int .i64 y.val) ∧ (Lit.int .i64 y.key).wf = true ∧ (Lit.int .i64 y.val).wf = true := by
      intro i hi
      obtain ⟨cs', h1, h2⟩ := hx i (by omega)
      rw [ce] at h1
      obtain ⟨_, hlen, hcell⟩ := World.cells?_some h1
      obtain ⟨y0, y1, y2, k, _, hxl, g0, g1, g2⟩ := trod_struct3 Tryd.underlying121 h2
      match cs', hlen with
      | [v0, v1, v2], _ =>
        simp [cb, ci] at g0 g1 g2
        have e0 := hcell 0 (by omega)
        have e1 := hcell 1 (by omega)
        have e2 := hcell 2 (by omega)
        rw [add_add] at e0 e1 e2
        obtain ⟨b, hb, _⟩ := DataW.trod_bool ub g0
        obtain ⟨z1, hz1, _, hw1⟩ := DataW.trod_int under_int g1
        obtain ⟨z2, hz2, _, hw2⟩ := DataW.trod_int under_int g2
        simp at hb hz1 hz2 e0 e1 e2
        subst hb hz1 hz2
        exact ⟨⟨b, z1, z2⟩, e0, e1, e2, hw1, hw2⟩
    obtain ⟨Y, hY⟩ := @choose_lt Opn ⟨opZero⟩ l _ each
    have hg : ∀ j, j < l → ((List.range l).map Y).getD j opZero = Y j := fun j hj => by
      rw [List.getD_eq_getElem?_getD, List.getElem?_map, List.getElem?_range hj]; rfl
    refine ⟨(List.range l).map Y, ⟨some a, c, by simp, by simp; unfold maxLen at hm; omega, fun _ => ⟨a, rfl, fun j hj => ?_⟩⟩, ⟨fun j hj => ?_, fun j hj => ?_⟩, by simpa using hlen⟩
    · have hj2 : j < l := by simpa using hj
      obtain ⟨e0, e1, e2, _⟩ := hY j hj2
      rw [hg j hj2, add_next _ _ _ (by omega), add_next _ _ _ (by omega)]
      exact ⟨e0, e1, e2⟩
    · have hj2 : j < l := by simpa using hj
      rw [hg j hj2]
      exact (hY j hj2).2.2.2.1
    · have hj2 : j < l := by simpa using hj
      rw [hg j hj2]
      exact (hY j hj2).2.2.2.2
/-- No transaction has more operations than memory holds. -/
def LensOk (hs : List Txr) : Prop := ∀ i, i < hs.length → (hs.getD i txrZero).ops.length ≤ reachBytes
set_option maxRecDepth 100000 in
theorem txns_open {H : Type} {enc : TypeId × Value → H} {W : World} {base : Nat} {spare : Nat → Bool} {held : Bool} {fuel : Nat} {v : Value} {x : DataW H × List MemPlace}
    (h : DataW.trod enc Tryd.prog W base spare held fuel 22 [v] = some x) (hw : ∀ n ∈ x.1.weights Tryd.prog 22, n ≤ reachBytes) : ∃ hs, Txns W v hs ∧ TxnsOk hs ∧ LensOk hs ∧ hs.length ≤ reachBytes := by
  rcases open_slice under_txns h with ⟨hcs, _⟩ | ⟨a, l, c, m, n, D, Pl, hcs, _, hl, hm, hmm, hxx, hx⟩
  · simp at hcs
    subst hcs
    exact ⟨[], ⟨none, 0, rfl, by simp, fun h => absurd h (by simp)⟩, fun i hi => by simp at hi, fun i hi => by simp at hi, by simp⟩
  · simp at hcs
    subst hcs
    have hlm : l ≤ m := by rw [hmm]; split <;> omega
    rw [hxx] at hw
    have hlen : l ≤ reachBytes := by
      have := hw ((l + (m - l)) * 48) (by simp [DataW.weights, under_txns, bytes_txn])
      omega
    have hwD : ∀ i, i < l → ∀ n ∈ (D i).weights Tryd.prog 118, n ≤ reachBytes := fun i hi n hn => hw n (by
      simp only [DataW.weights, under_txns, List.mem_cons, List.mem_append]
      exact Or.inr (Or.inl (weights_all (d := D i) (List.mem_map.2 ⟨i, List.mem_range.2 hi, rfl⟩) n hn)))
    clear hw hxx
    have ci : Tryd.prog.cellsOf 3 = 1 := by kernel_rfl
    have co : Tryd.prog.cellsOf 116 = 1 := by kernel_rfl
    have ce : Tryd.prog.cellsOf 118 = 4 := by kernel_rfl
    have each : ∀ i, i < l → ∃ y : Txr, (∃ u, W.cell? (a.add (i * 4)) = some (.int .i64 y.ses) ∧ W.cell? (a.add (i * 4 + 1)) = some (.int .i64 y.beg) ∧ W.cell? (a.add (i * 4 + 2)) = some (.int .i64 y.com) ∧ W.cell? (a.add (i * 4 + 3)) = some u ∧ Opl W u y.ops) ∧ TxrOk y ∧ y.ops.length ≤ reachBytes := by
      intro i hi
      obtain ⟨cs', h1, h2⟩ := hx i (by omega)
      rw [ce] at h1
      obtain ⟨_, hlen4, hcell⟩ := World.cells?_some h1
      obtain ⟨ys, k, _, hag, hxl, hys, hf⟩ := DataW.trod_struct Tryd.underlying118 h2
      match cs', hlen4 with
      | [v0, v1, v2, v3], _ =>
        match ys, hys with
        | [y0, y1, y2, y3], _ =>
          have g0 := hf 0 _ rfl
          have g1 := hf 1 _ rfl
          have g2 := hf 2 _ rfl
          have g3 := hf 3 _ rfl
          simp [ci, co] at g0 g1 g2 g3
          have e0 := hcell 0 (by omega)
          have e1 := hcell 1 (by omega)
          have e2 := hcell 2 (by omega)
          have e3 := hcell 3 (by omega)
          rw [add_add] at e0 e1 e2 e3
          obtain ⟨z0, hz0, _, hw0⟩ := DataW.trod_int under_int g0
          obtain ⟨z1, hz1, _, hw1⟩ := DataW.trod_int under_int g1
          obtain ⟨z2, hz2, _, hw2⟩ := DataW.trod_int under_int g2
          simp at hz0 hz1 hz2 e0 e1 e2 e3
          subst hz0 hz1 hz2
          have hDi : D i = .agg [y0.1, y1.1, y2.1, y3.1] := by simpa using congrArg Prod.fst hag
          obtain ⟨xs, hxs, hok, hll⟩ := ops_open2 g3 (fun n hn => hwD i hi n (by
            rw [hDi]
            simp only [DataW.weights, Tryd.underlying118]
            exact DataW.weights_mem_each (j := 3) (t := 116) (d := y3.1) (by rfl) (by rfl) n hn))
          exact ⟨⟨z0, z1, z2, xs⟩, ⟨v3, e0, e1, e2, e3, hxs⟩, ⟨hok, hw0, hw1, hw2⟩, hll⟩
    obtain ⟨Y, hY⟩ := @choose_lt Txr ⟨txrZero⟩ l _ each
    have hg : ∀ j, j < l → ((List.range l).map Y).getD j txrZero = Y j := fun j hj => by
      rw [List.getD_eq_getElem?_getD, List.getElem?_map, List.getElem?_range hj]; rfl
    refine ⟨(List.range l).map Y, ⟨some a, c, by simp, by simp; unfold maxLen at hm; omega, fun _ => ⟨a, rfl, fun j hj => ?_⟩⟩, fun j hj => ?_, fun j hj => ?_, by simpa using hlen⟩
    · have hj2 : j < l := by simpa using hj
      obtain ⟨⟨u, e0, e1, e2, e3, e4⟩, _⟩ := hY j hj2
      refine ⟨u, ?_⟩
      rw [hg j hj2, add_next _ _ _ (by omega), add_next _ _ _ (by omega), add_next _ _ _ (by omega)]
      exact ⟨e0, e1, e2, e3, e4⟩
    · have hj2 : j < l := by simpa using hj
      rw [hg j hj2]
      exact (hY j hj2).2.1
    · have hj2 : j < l := by simpa using hj
      rw [hg j hj2]
      exact (hY j hj2).2.2
end Go.Proofs.YtlhfpnkfapghoaaDoor
end

section
/- The history laws' first test, and their bound. No condition but each theorem's own. -/
set_option linter.unusedVariables false
set_option linter.unusedSimpArgs false
namespace Go.Proofs.YtlhfpnkfapghoaaDoor
open Go.RowKit Go.Maps

section
variable {P : Program} (w : World) {ops : Array Oper} {rest : List Oper} {o : Oper} {a : Act} {Q : Exit → Act → World → Prop}
theorem wpList_wanted (hw : Region.wanted o (yielded ops a.tmps) = true)
    (h : ∀ K : Act → World → Prop, (∀ a w, wpList P ops Q rest a w → K a w) → o.wp P a w K Q) : wpList P ops Q (o :: rest) a w :=
  wpList_step fun K hK => by rw [if_pos hw]; exact h K hK
theorem wpList_imap_getG (hw : Region.wanted o (yielded ops a.tmps) = true) (m x : Operand) (T : TypeId) (hop : o.op = Op.lookup T m x false) (K E : TypeId) (hK : P.underlying K = some (.int .i64)) (hT : P.underlying T = some (.map K E)) (z : Value) (hz : (zeroValue E).run P w = .ok z w)
    (b c : Nat) (f : Int → Option Value) (hm : a.eval m = .map (some b)) (h : IMap P K w b c f) (k : Int) (hx : a.eval x = .int .i64 k) (hk : (Lit.int .i64 k).wf = true)
    (hN : wpList P ops Q rest (a.put o.dst ((f k).getD z)) w) : wpList P ops Q (o :: rest) a w := by
  refine wpList_wanted w hw fun K' hK' => ?_
  have hrun := (h.at_ hK hT hz k hk).2
  unfold Oper.wp
  simp [execOp, hop, hm, hx, hrun, Result.andThen]
  exact hK' _ _ hN
theorem wpList_imap_lenG (hw : Region.wanted o (yielded ops a.tmps) = true) (m : Operand) (T : TypeId) (hop : o.op = Op.call { callee := Callee.builtin Builtin.len, args := #[m], argTypes := #[T] }) (K E : TypeId) (hT : P.underlying T = some (.map K E))
    (b c : Nat) (f : Int → Option Value) (hm : a.eval m = .map (some b)) (h : IMap P K w b c f) (hN : wpList P ops Q rest (a.put o.dst (.int .i64 c)) w) : wpList P ops Q (o :: rest) a w := by
  obtain ⟨D, ho, hs, _⟩ := h
  refine wpList_wanted w hw fun K' hK' => ?_
  unfold Oper.wp
  simp [execOp, hop, resolve, invoke, builtin, hm, ho.len hT o.type, Result.andThen]
  exact hK' _ _ (by rw [hs]; exact hN)
end
set_option maxRecDepth 20000 in
set_option maxHeartbeats 1000000 in
theorem op_write (k v : Int) (w : World) : Calls Tryd.prog 84 #[.int .i64 k, .int .i64 v] w fun e w' => e = .returned (.agg #[.bool true, .int .i64 k, .int .i64 v]) ∧ Ch nob w w' := by
  have hc0 : Ch nob w (w.alloc (.cells #[.bool true, .int .i64 k, .int .i64 v] 121)) := (Ch.refl _ _).alloc _
  go_enter Tryd.func84, Tryd.ntmps84
  go_wp2_with fail
  exact bodyPost_ret (results_cell_row rfl _ _ w.heap.size 121 #[.bool true, .int .i64 k, .int .i64 v] (0, 0) _ rfl (Blk.new _ _ _) rfl rfl (by kernel_rfl)) rfl ⟨rfl, hc0⟩
theorem opl_one {w : World} {g c : Nat} {x : Opn} {T : TypeId} (hb : Blk w g #[.bool x.wr, .int .i64 x.key, .int .i64 x.val] T) (hc : 1 ≤ c) : Opl w (.slice (some ⟨g, 0, none⟩) 1 c) [x] := by
  refine ⟨_, _, rfl, ⟨hc, by simp⟩, fun _ => ⟨_, rfl, fun j hj => ?_⟩⟩
  obtain rfl : j = 0 := by simp at hj; exact hj
  exact ⟨hb.cell (i := 0) rfl, hb.cell (i := 1) rfl, hb.cell (i := 2) rfl⟩
theorem txns_two {w : World} {g c : Nat} {a b : Txr} {u v : Value} {T : TypeId} (hb : Blk w g #[.int .i64 a.ses, .int .i64 a.beg, .int .i64 a.com, u, .int .i64 b.ses, .int .i64 b.beg, .int .i64 b.com, v] T) (hu : Opl w u a.ops) (hv : Opl w v b.ops) (hc : 2 ≤ c) :
    Txns w (.slice (some ⟨g, 0, none⟩) 2 c) [a, b] ∧ Txns w (.slice (some ⟨g, 0, none⟩) 1 c) [a] := by
  refine ⟨⟨_, _, rfl, ⟨hc, by simp⟩, fun _ => ⟨_, rfl, fun j hj => ?_⟩⟩, ⟨_, _, rfl, ⟨show 1 ≤ c by omega, by simp⟩, fun _ => ⟨_, rfl, fun j hj => ?_⟩⟩⟩
  · obtain rfl | rfl : j = 0 ∨ j = 1 := by simp at hj; omega
    · exact ⟨u, hb.cell (i := 0) rfl, hb.cell (i := 1) rfl, hb.cell (i := 2) rfl, hb.cell (i := 3) rfl, hu⟩
    · exact ⟨v, hb.cell (i := 4) rfl, hb.cell (i := 5) rfl, hb.cell (i := 6) rfl, hb.cell (i := 7) rfl, hv⟩
  · obtain rfl : j = 0 := by simp at hj; exact hj
    exact ⟨u, hb.cell (i := 0) rfl, hb.cell (i := 1) rfl, hb.cell (i := 2) rfl, hb.cell (i := 3) rfl, hu⟩
def spk1 : Txr := ⟨0, 1, 2, [⟨true, 0, 5⟩]⟩
def spk2 : Txr := ⟨0, 3, 4, [⟨true, 1, 5⟩]⟩
theorem spk_two : chkH [spk1, spk2] = 2 := by decide
theorem spk_one : chkH [spk1] = 0 := by decide
theorem spk_ok : TxnsOk [spk1, spk2] ∧ TxnsOk [spk1] := by
  have h1 : TxrOk spk1 := ⟨⟨fun i hi => by
    obtain rfl : i = 0 := by have : i < 1 := hi; omega
    decide, fun i hi => by
    obtain rfl : i = 0 := by have : i < 1 := hi; omega
    decide⟩, by decide, by decide, by decide⟩
  have h2 : TxrOk spk2 := ⟨⟨fun i hi => by
    obtain rfl : i = 0 := by have : i < 1 := hi; omega
    decide, fun i hi => by
    obtain rfl : i = 0 := by have : i < 1 := hi; omega
    decide⟩, by decide, by decide, by decide⟩
  constructor <;> intro i hi <;> simp at hi
  · obtain rfl | rfl : i = 0 ∨ i = 1 := by omega
    · exact h1
    · exact h2
  · subst hi
    exact h1
end Go.Proofs.YtlhfpnkfapghoaaDoor
end

section
/- The law HistoryChecks: which histories may be, and which are too large. No condition but each theorem's own. -/
set_option linter.unusedVariables false
set_option linter.unusedSimpArgs false
namespace Go.Proofs.YtlhfpnkfapghoaaDoor
open Go.RowKit Go.Maps

def bigN (hs : List Txr) : Bool := decide (100 < hs.length) || decide (1200 < countTo hs hs.length)
def bigZ (hs : List Txr) : Int := if bigN hs then 1 else 0
theorem bigZ_yes {hs : List Txr} (h : bigN hs = true) : bigZ hs = 1 := by unfold bigZ; rw [h]; rfl
theorem bigZ_no {hs : List Txr} (h : bigN hs = false) : bigZ hs = 0 := by unfold bigZ; rw [h]; rfl
theorem bigN_count {hs : List Txr} (h : bigN hs = false) : hs.length ≤ 100 ∧ countTo hs hs.length ≤ 1200 := by
  unfold bigN at h
  rw [Bool.or_eq_false_iff, decide_eq_false_iff_not, decide_eq_false_iff_not] at h
  omega
theorem doc_big {hs : List Txr} (h : bigB hs = true) : docH hs = 3 := by unfold docH; rw [if_pos h]
theorem doc_may {hs : List Txr} (h : bigB hs = false) (h1 : mayH hs = true) : docH hs = 0 := by unfold docH; rw [h, h1]; rfl
theorem doc_no {hs : List Txr} (h : bigB hs = false) (h1 : mayH hs = false) : docH hs = 2 := by unfold docH; rw [h, h1]; rfl
set_option maxHeartbeats 1000000 in
theorem check_ref06G (w : World) (v : Value) (hs : List Txr) (hv : Txns w v hs) (hn : countTo hs hs.length ≤ 10000000000000000) : Calls Tryd.prog 69 #[v] w fun e w' => e = .returned (.int .i64 (docH hs)) ∧ Ch nob w w' := by
  obtain ⟨A, cp, rfl⟩ := hv.shape
  have HV := Lib.hid hv
  obtain ⟨_, ⟨_, hlen⟩, _⟩ := hv.at
  have HC := Lib.hid hn
  obtain ⟨n, hn2⟩ : ∃ n, hs.length = n := ⟨_, rfl⟩
  rw [hn2] at HV hlen ⊢
  have HBIG := Lib.hid (show bigB hs = (decide (64 < n) || decide (1024 < countTo hs n)) from by unfold bigB; rw [hn2])
  obtain ⟨m, hm⟩ : ∃ m, countTo hs n = m := ⟨_, rfl⟩
  rw [hm] at HBIG
  have HCT := count_ref06G w (.slice A n cp) hs HV.out HC.out
  have HM := Lib.hid (show countTo hs hs.length = m from by rw [hn2]; exact hm)
  rw [HM.out] at HCT
  have HCT2 := Lib.hid HCT
  clear hv hn2 hn hm HCT
  by_cases h64 : (64 : Int) < n
  · have d64 : decide ((64 : Int) < n) = true := decide_eq_true h64
    have HF := Lib.hid (doc_big (show bigB hs = true from by rw [HBIG.out, decide_eq_true (show 64 < n by omega)]; rfl))
    go_enter Tryd.func69, Tryd.ntmps69
    go_wp2_with fail
    go_ret
    exact ⟨ret_int HF.out.symm, Ch.refl _ _⟩
  · have d64 : decide ((64 : Int) < n) = false := decide_eq_false h64
    by_cases hbig : (1024 : Int) < m
    · have dbig : decide ((1024 : Int) < m) = true := decide_eq_true hbig
      have HF := Lib.hid (doc_big (show bigB hs = true from by rw [HBIG.out, decide_eq_true (show 1024 < m by omega), Bool.or_true]))
      go_enter Tryd.func69, Tryd.ntmps69
      go_wp2_with fail
      refine HCT2.out.mono ?_
      rintro e w1 ⟨rfl, hc1⟩
      go_wp2_with fail
      go_ret
      exact ⟨ret_int HF.out.symm, hc1⟩
    · have dbig : decide ((1024 : Int) < m) = false := decide_eq_false hbig
      have HSM := Lib.hid (show bigB hs = false from by rw [HBIG.out, decide_eq_false (show ¬ 64 < n by omega), decide_eq_false (show ¬ 1024 < m by omega)]; rfl)
      go_enter Tryd.func69, Tryd.ntmps69
      go_wp2_with fail
      refine HCT2.out.mono ?_
      rintro e w1 ⟨rfl, hc1⟩
      clear HCT2
      go_wp2_with fail
      refine (may_ref06 _ _ hs (HV.out.keep hc1) (by rw [HM.out]; omega)).mono ?_
      rintro e w2 ⟨rfl, hc2⟩
      have hc3 := hc1.seq hc2
      clear hc1 hc2
      cases hmy : mayH hs with
      | true =>
        have HF := Lib.hid (doc_may HSM.out hmy)
        clear hmy
        go_wp2_with fail
        go_ret
        exact ⟨ret_int HF.out.symm, hc3⟩
      | false =>
        have HF := Lib.hid (doc_no HSM.out hmy)
        clear hmy
        go_wp2_with fail
        go_ret
        exact ⟨ret_int HF.out.symm, hc3⟩
theorem check_ref06 (w : World) (v : Value) (hs : List Txr) (hv : Txns w v hs) (hn : countTo hs hs.length ≤ 1000000) : Calls Tryd.prog 69 #[v] w fun e w' => e = .returned (.int .i64 (docH hs)) ∧ Ch nob w w' := check_ref06G w v hs hv (Nat.le_trans hn (by decide))
end Go.Proofs.YtlhfpnkfapghoaaDoor
end

section
/- The law HistoryTwice: where a value is written twice it is told. No condition but each theorem's own. -/
set_option linter.unusedVariables false
set_option linter.unusedSimpArgs false
namespace Go.Proofs.YtlhfpnkfapghoaaDoor
open Go.RowKit Go.Maps

/-- How often each value was seen. -/
def cntF (g : Int → Nat) : Int → Option Value := fun v => if g v = 0 then none else some (.int .i64 (g v))
theorem cntF_get (g : Int → Nat) (v : Int) : (cntF g v).getD (.int .i64 0) = .int .i64 (g v) := by
  unfold cntF
  split
  · rename_i h; rw [h]; rfl
  · rfl
theorem cntF_put (g : Int → Nat) (v : Int) : putM (cntF g) v (.int .i64 (((g v + 1 : Nat)) : Int)) = cntF fun x => g x + if x = v then 1 else 0 := by
  funext x
  unfold putM cntF
  by_cases e : x = v
  · subst e
    simp
  · simp [e]
theorem cnt_step (hs : List Txr) (i : Nat) (xs : List Opn) (j : Nat) (x : Opn) (hx : xs.getD j opZero = x) (hw : x.wr = true) : (fun u => (tmT hs u i + tmN xs u j) + if u = x.val then 1 else 0) = fun u => tmT hs u i + tmN xs u (j + 1) := by
  funext u
  have : tmN xs u (j + 1) = tmN xs u j + if isW u x then 1 else 0 := by rw [← hx]; rfl
  rw [this]
  unfold isW
  rw [hw]
  by_cases e : u = x.val
  · subst e; simp; omega
  · rw [if_neg e, if_neg (by simp; exact fun e2 => e e2.symm)]; omega
theorem cnt_read (hs : List Txr) (i : Nat) (xs : List Opn) (j : Nat) (x : Opn) (hx : xs.getD j opZero = x) (hw : x.wr = false) : (fun u => tmT hs u i + tmN xs u j) = fun u => tmT hs u i + tmN xs u (j + 1) := by
  funext u
  have : tmN xs u (j + 1) = tmN xs u j + if isW u x then 1 else 0 := by rw [← hx]; rfl
  rw [this]
  unfold isW
  rw [hw]
  simp
/-- Was any value seen twice? -/
def Twice (g : Int → Nat) (b : Bool) : Prop := (b = true → ∃ v, 2 ≤ g v) ∧ (b = false → ∀ v, g v ≤ 1)
theorem Twice.le {g h : Int → Nat} (t : Twice g true) (hl : ∀ v, g v ≤ h v) : Twice h true := by
  obtain ⟨v, hv⟩ := t.1 rfl
  exact ⟨fun _ => ⟨v, Nat.le_trans hv (hl v)⟩, fun h => by cases h⟩
theorem Twice.hist {hs : List Txr} {b : Bool} (t : Twice (fun v => tmT hs v hs.length) b) : (histF hs hs.length).isSome = !b := by
  cases e : histF hs hs.length with
  | none =>
    obtain ⟨_, _, v, _, _, _, h⟩ := histF_fail e
    cases b with
    | true => rfl
    | false => have := t.2 rfl v; dsimp only at this; omega
  | some M =>
    cases b with
    | false => rfl
    | true =>
      obtain ⟨v, hv⟩ := t.1 rfl
      have := (goodH e).cnt v
      unfold b2n at this
      dsimp only at hv
      split at this <;> omega
/-- Writes, by whether it is told. -/
theorem writes_ok (w : World) (v : Value) (hs : List Txr) (hv : Txns w v hs) (hk : TxnsOk hs) (hn : countTo hs hs.length ≤ 1000000) (q : Bool) (hq : (histF hs hs.length).isSome = q) : Calls Tryd.prog 71 #[v] w fun e w' => (∃ b, e = .returned (.tuple #[.map (some b), .bool q])) ∧ Ch nob w w' := by
  refine (writes_history w v hs hv hk hn).mono ?_
  rintro e w' ⟨h, hc⟩
  rcases h with ⟨b, N, rfl, hN, _⟩ | ⟨b, rfl, hN⟩
  · rw [hN] at hq; subst hq; exact ⟨⟨b, rfl⟩, hc⟩
  · rw [hN] at hq; subst hq; exact ⟨⟨b, rfl⟩, hc⟩
end Go.Proofs.YtlhfpnkfapghoaaDoor
end

section
/- The law HistoryWrites: who writes each value, and whether it is the last one. No condition but each theorem's own. -/
set_option linter.unusedVariables false
set_option linter.unusedSimpArgs false
namespace Go.Proofs.YtlhfpnkfapghoaaDoor
open Go.RowKit Go.Maps

theorem firstVal_mem : ∀ {l : List Opn} {o : Opn}, l.Pairwise (fun x y => x.key < y.key) → o ∈ l → firstVal l o.key = o.val
  | x :: l, o, hp, h => by
    rw [List.pairwise_cons] at hp
    unfold firstVal
    rcases List.mem_cons.1 h with rfl | h
    · rw [if_pos rfl]
    · have := hp.1 o h
      rw [if_neg (by omega)]
      exact firstVal_mem hp.2 h
theorem valR_is {xs : List Opn} {k : Int} {o : Opn} (h : lastW xs xs.length k = some o) (h0 : 0 ≤ k) (h1 : k < 64) : valR xs k = o.val := by
  have hk := (lastW_mem (Nat.le_refl _) h).2.2
  have hm : o ∈ writesR xs 64 := (mem_writesR xs o 64).2 ⟨by rw [hk]; exact ⟨h0, h1⟩, by rw [hk]; exact h⟩
  have := firstVal_mem (writesR_rise xs 64) hm
  rw [hk] at this
  exact this
theorem lastW_some {xs : List Opn} {k : Int} : ∀ {i j : Nat}, j < i → (xs.getD j opZero).wr = true → (xs.getD j opZero).key = k → ∃ o, lastW xs i k = some o
  | 0, j, h, _, _ => by omega
  | i + 1, j, h, hw, hk => by
    unfold lastW
    split
    · exact ⟨_, rfl⟩
    · rename_i hn
      refine lastW_some (j := j) ?_ hw hk
      by_cases e : j = i
      · subst e; exact absurd ⟨hw, hk⟩ hn
      · omega
theorem may_ops {hs : List Txr} (h : mayH hs = true) {i j : Nat} (hi : i < hs.length) (hj : j < (hs.getD i txrZero).ops.length) : 0 ≤ ((hs.getD i txrZero).ops.getD j opZero).key ∧ ((hs.getD i txrZero).ops.getD j opZero).key < 64 ∧ (hs.getD i txrZero).ops.length ≤ 64 := by
  have h1 := all_iff.1 ((may_iff hs).1 h).1 i hi
  unfold txrOkB txnOk at h1
  rw [Bool.and_eq_true] at h1
  have h2 := may_at h1.2 hj
  have h3 := h1.1
  unfold opOk at h2
  unfold headOk at h3
  simp only [Bool.and_eq_true, decide_eq_true_eq] at h2 h3
  exact ⟨h2.1.1.1.1, h2.1.1.1.2, h3.2⟩
theorem write_is {hs : List Txr} {M : WM} (hm : mayH hs = true) (h : histF hs hs.length = some M) {i j : Nat} (hi : i < hs.length) {xs : List Opn} (hx : (hs.getD i txrZero).ops = xs) (hj : j < xs.length) {x : Opn} (hxj : xs.getD j opZero = x) (hw : x.wr = true) : M x.val = some ⟨(i : Int), x.key, valR xs x.key == x.val⟩ := by
  have g := goodH h
  have hwk : wroteB xs x.key x.val = true := any_yes hj (by rw [hxj]; unfold isWK; rw [hw]; simp)
  have hwk2 : wroteB (hs.getD i txrZero).ops x.key x.val = true := by rw [hx]; exact hwk
  have h1 := g.cnt x.val
  have h2 := tmT_pos (hs := hs) (v := x.val) hi
  have h3 := wrote_tm hwk2
  cases e : M x.val with
  | none => rw [e] at h1; simp [b2n] at h1; omega
  | some y =>
    obtain ⟨t, ht, hy1, hy2, hy3⟩ := g.wr _ _ e
    obtain ⟨e1, e2⟩ := one_key h hi ht hwk2 hy2
    subst e1
    obtain ⟨yt, yk, yl⟩ := y
    dsimp only at hy1 hy3 e2
    subst hy1
    rw [← e2, hy3, hx]
    have hkr := may_ops hm hi (j := j) (by rw [hx]; exact hj)
    rw [hx, hxj] at hkr
    obtain ⟨o, ho⟩ := lastW_some (k := x.key) hj (by rw [hxj]; exact hw) (by rw [hxj])
    have hv := valR_is ho hkr.1 hkr.2.1
    rw [hv]
    have hfin : isLast xs x.val = (o.val == x.val) := by
      rw [Bool.eq_iff_iff, isLast_iff, beq_iff_eq]
      constructor
      · rintro ⟨p, hp1, hp2⟩
        have hp3 := lastW_mem (Nat.le_refl _) hp2
        obtain ⟨q, hq1, hq2⟩ := lastW_in hp2
        have hpw : wroteB (hs.getD i txrZero).ops p.key x.val = true := by
          rw [hx]
          exact any_yes hq1 (by rw [hq2]; unfold isWK; rw [hp3.2.1, hp1]; simp)
        have := (one_key h hi hi hpw hwk2).2
        rw [this, ho] at hp2
        cases hp2
        exact hp1
      · intro hv2
        exact ⟨o, hv2, by rw [(lastW_mem (Nat.le_refl _) ho).2.2]; exact ho⟩
    rw [hfin]
theorem quiet_imap_get {P : Program} {C : World → Prop} {o : Oper} {a : Act} {K : Act → Prop} (T : TypeId) (m x : Operand) (ho : o.op = .lookup T m x false) (b : Nat) (k : Int) (v : Value) (hm : a.eval m = .map (some b)) (hx : a.eval x = .int .i64 k)
    (hr : ∀ w, C w → (Instr.lookup T (.map (some b)) (.int .i64 k) false).run P w = .ok v w) (h : K (a.put o.dst v)) : o.quiet P a C K :=
  ⟨v, fun w hw => by
    unfold Oper.quietAt execOp
    simp only [ho, hm, hx, Sem.run_bind, hr w hw, Result.andThen_ok]
    exact ⟨rfl, rfl⟩, h⟩
end Go.Proofs.YtlhfpnkfapghoaaDoor
end
