/- The law HistoryChecks: which histories may be, and which are too large. No condition but each theorem's own. -/
import Derived.Test.YtobfanodjdkkoaaHistL0
import Derived.Test.YtobfanodjdkkoaaTxnOpen
set_option linter.unusedVariables false
set_option linter.unusedSimpArgs false
namespace Go.Proofs.Ytobfanodjdkkoaa
open Go.RowKit Go.Maps

def bigN (hs : List Txr) : Bool := decide (100 < hs.length) || decide (1200 < countTo hs hs.length)
def bigZ (hs : List Txr) : Int := if bigN hs then 1 else 0
theorem bigZ_yes {hs : List Txr} (h : bigN hs = true) : bigZ hs = 1 := by unfold bigZ; rw [h]; rfl
theorem bigZ_no {hs : List Txr} (h : bigN hs = false) : bigZ hs = 0 := by unfold bigZ; rw [h]; rfl
theorem bigN_count {hs : List Txr} (h : bigN hs = false) : hs.length ≤ 100 ∧ countTo hs hs.length ≤ 1200 := by
  unfold bigN at h
  rw [Bool.or_eq_false_iff, decide_eq_false_iff_not, decide_eq_false_iff_not] at h
  omega
set_option maxHeartbeats 1000000 in
theorem big06 (w : World) (v : Value) (hs : List Txr) (hv : Txns w v hs) (hL : LensOk hs) : Calls Try.prog 12 #[v] w fun e w' => e = .returned (.int .i64 (bigZ hs)) ∧ Ch nob w w' := by
  obtain ⟨A, cp, rfl⟩ := hv.shape
  have HV := Lib.hid hv
  have HLN := Lib.hid hL
  obtain ⟨_, ⟨_, hlen⟩, _⟩ := hv.at
  obtain ⟨n, hn2⟩ : ∃ n, hs.length = n := ⟨_, rfl⟩
  have HN := Lib.hid hn2
  rw [hn2] at HV hlen ⊢
  clear hv hL hn2
  by_cases h100 : (100 : Int) < n
  · have d100 : decide ((100 : Int) < n) = true := decide_eq_true h100
    have HF := Lib.hid (bigZ_yes (show bigN hs = true from by unfold bigN; rw [decide_eq_true (show 100 < hs.length by have := HN.out; omega)]; rfl))
    go_enter Try.func12, Try.ntmps12
    go_wp2_with fail
    go_ret
    exact ⟨ret_int HF.out.symm, Ch.refl _ _⟩
  · have d100 : decide ((100 : Int) < n) = false := decide_eq_false h100
    go_enter Try.func12, Try.ntmps12
    go_wp2_with fail
    go_loopw [11, 3] (fun x y wr => ∃ i m : Nat, x = .int .i64 i ∧ y = .int .i64 m ∧ i ≤ n ∧ m ≤ 1200 ∧ Hid (m = countTo hs i) ∧ Ch nob w wr) (fun x _ _ => n - (intOf x).toNat)
    case atStart => exact ⟨0, 0, rfl, rfl, Nat.zero_le _, by omega, Lib.hid rfl, Ch.refl _ _⟩
    case round =>
      obtain ⟨i, m, rfl, rfl, hi, hm1, hm, hc⟩ := hrel
      by_cases hlt : i < n
      · have hd : decide ((i : Int) < (n : Int)) = true := decide_eq_true (by omega)
        have HI : i < hs.length := by rw [HN.out]; exact hlt
        obtain ⟨ad, u, rfl, hx0, hx1, hx2, hx3, hu⟩ := HV.out.both hc i HI
        obtain ⟨A2, c2, rfl⟩ := hu.shape
        have hcs : countTo hs (i + 1) = countTo hs i + (hs.getD i txrZero).ops.length := rfl
        have hll := HLN.out i HI
        obtain ⟨x, hx⟩ : ∃ x, hs.getD i txrZero = x := ⟨_, rfl⟩
        rw [hx] at hx0 hx1 hx2 hx3 hcs hll
        obtain ⟨l, hl⟩ : ∃ l, x.ops.length = l := ⟨_, rfl⟩
        rw [hl] at hx3 hcs hll
        have hle := countTo_mono hs (show i + 1 ≤ n by omega)
        have HM := Lib.hid (show m + l = countTo hs (i + 1) from by rw [hcs, ← hm.out])
        have HLE := Lib.hid hle
        have hc2 := hc.alloc (.cells #[.int .i64 x.ses, .int .i64 x.beg, .int .i64 x.com, .slice A2 l c2] 33)
        have hll2 : l ≤ 140737488351232 := hll
        clear hx hu hl hc hcs hle hll HI
        by_cases hov : (1200 : Int) < (m : Int) + (l : Int)
        · have dov : decide ((1200 : Int) < (m : Int) + (l : Int)) = true := decide_eq_true hov
          have HF := Lib.hid (bigZ_yes (show bigN hs = true from by
            unfold bigN
            rw [decide_eq_true (show 1200 < countTo hs hs.length by rw [HN.out]; have := HLE.out; have := HM.out; omega), Bool.or_true]))
          go_wp2_with fail
          go_ret
          exact ⟨ret_int HF.out.symm, hc2⟩
        · have dov : decide ((1200 : Int) < (m : Int) + (l : Int)) = false := decide_eq_false hov
          go_wp2_with fail
          go_roundw
          case rel => exact ⟨i + 1, m + l, by go_num, by go_num, by omega, by omega, HM, hc2⟩
          case measure => simp [intOf]; omega
      · have hd : decide ((i : Int) < (n : Int)) = false := decide_eq_false (by omega)
        obtain rfl : i = n := by omega
        have HF := Lib.hid (bigZ_no (show bigN hs = false from by
          unfold bigN
          rw [decide_eq_false (show ¬ 100 < hs.length by rw [HN.out]; omega), decide_eq_false (show ¬ 1200 < countTo hs hs.length by rw [HN.out, ← hm.out]; omega)]; rfl))
        go_wp2_with fail
        go_ret
        exact ⟨ret_int HF.out.symm, hc⟩
theorem doc_big {hs : List Txr} (h : bigB hs = true) : docH hs = 3 := by unfold docH; rw [if_pos h]
theorem doc_may {hs : List Txr} (h : bigB hs = false) (h1 : mayH hs = true) : docH hs = 0 := by unfold docH; rw [h, h1]; rfl
theorem doc_no {hs : List Txr} (h : bigB hs = false) (h1 : mayH hs = false) : docH hs = 2 := by unfold docH; rw [h, h1]; rfl
set_option maxHeartbeats 1000000 in
theorem check_ref06 (w : World) (v : Value) (hs : List Txr) (hv : Txns w v hs) (hn : countTo hs hs.length ≤ 1000000) : Calls Try.prog 14 #[v] w fun e w' => e = .returned (.int .i64 (docH hs)) ∧ Ch nob w w' := by
  obtain ⟨A, cp, rfl⟩ := hv.shape
  have HV := Lib.hid hv
  obtain ⟨_, ⟨_, hlen⟩, _⟩ := hv.at
  have HC := Lib.hid hn
  obtain ⟨n, hn2⟩ : ∃ n, hs.length = n := ⟨_, rfl⟩
  rw [hn2] at HV hlen ⊢
  have HBIG := Lib.hid (show bigB hs = (decide (64 < n) || decide (1024 < countTo hs n)) from by unfold bigB; rw [hn2])
  obtain ⟨m, hm⟩ : ∃ m, countTo hs n = m := ⟨_, rfl⟩
  rw [hm] at HBIG
  have HCT := count_ref06 w (.slice A n cp) hs HV.out HC.out
  rw [show countTo hs hs.length = m from by rw [hn2]; exact hm] at HCT
  have HCT2 := Lib.hid HCT
  clear hv hn2 hn hm HCT
  by_cases h64 : (64 : Int) < n
  · have d64 : decide ((64 : Int) < n) = true := decide_eq_true h64
    have HF := Lib.hid (doc_big (show bigB hs = true from by rw [HBIG.out, decide_eq_true (show 64 < n by omega)]; rfl))
    go_enter Try.func14, Try.ntmps14
    go_wp2_with fail
    go_ret
    exact ⟨ret_int HF.out.symm, Ch.refl _ _⟩
  · have d64 : decide ((64 : Int) < n) = false := decide_eq_false h64
    by_cases hbig : (1024 : Int) < m
    · have dbig : decide ((1024 : Int) < m) = true := decide_eq_true hbig
      have HF := Lib.hid (doc_big (show bigB hs = true from by rw [HBIG.out, decide_eq_true (show 1024 < m by omega), Bool.or_true]))
      go_enter Try.func14, Try.ntmps14
      go_wp2_with fail
      refine HCT2.out.mono ?_
      rintro e w1 ⟨rfl, hc1⟩
      go_wp2_with fail
      go_ret
      exact ⟨ret_int HF.out.symm, hc1⟩
    · have dbig : decide ((1024 : Int) < m) = false := decide_eq_false hbig
      have HSM := Lib.hid (show bigB hs = false from by rw [HBIG.out, decide_eq_false (show ¬ 64 < n by omega), decide_eq_false (show ¬ 1024 < m by omega)]; rfl)
      go_enter Try.func14, Try.ntmps14
      go_wp2_with fail
      refine HCT2.out.mono ?_
      rintro e w1 ⟨rfl, hc1⟩
      clear HCT2
      go_wp2_with fail
      refine (may_ref06 _ _ hs (HV.out.keep hc1) HC.out).mono ?_
      rintro e w2 ⟨rfl, hc2⟩
      have hc3 := hc1.seq hc2
      clear hc1 hc2
      cases hmy : mayH hs with
      | true =>
        have HF := Lib.hid (doc_may HSM.out hmy)
        clear hmy
        go_wp2_with fail
        go_ret
        exact ⟨ret_int HF.out.symm, hc3⟩
      | false =>
        have HF := Lib.hid (doc_no HSM.out hmy)
        clear hmy
        go_wp2_with fail
        go_ret
        exact ⟨ret_int HF.out.symm, hc3⟩
set_option maxHeartbeats 1000000 in
theorem law_historychecks (w : World) (v : Value) (hs : List Txr) (hv : Txns w v hs) (hk : TxnsOk hs) (hL : LensOk hs) : Calls Try.prog 3 #[v] w fun e w' => e = .returned (.bool true) ∧ Below w.heap.size w w' := by
  obtain ⟨A, cp, rfl⟩ := hv.shape
  have HV := Lib.hid hv
  have HK := Lib.hid hk
  have HLN := Lib.hid hL
  obtain ⟨n, hn2⟩ : ∃ n, hs.length = n := ⟨_, rfl⟩
  rw [hn2] at HV ⊢
  clear hv hk hL hn2
  go_enter Try.func3, Try.ntmps3
  go_wp2_with fail
  refine (speaks06 _).mono ?_
  rintro e w1 ⟨rfl, hc1⟩
  go_wp2_with fail
  refine (big06 _ _ hs (HV.out.keep hc1) HLN.out).mono ?_
  rintro e w2 ⟨rfl, hc2⟩
  have hc3 := hc1.seq hc2
  clear hc1 hc2
  cases hb : bigN hs with
  | true =>
    rw [bigZ_yes hb]
    go_wp2_with fail
    go_ret
    exact ⟨rfl, hc3.below⟩
  | false =>
    rw [bigZ_no hb]
    have HC := Lib.hid (show countTo hs hs.length ≤ 1000000 by have := (bigN_count hb).2; omega)
    clear hb
    go_wp2_with fail
    refine (check_history _ _ hs (HV.out.keep hc3) HK.out HC.out).mono ?_
    rintro e w4 ⟨rfl, hcA⟩
    have hc4 := hc3.seq hcA
    rw [check_is]
    obtain ⟨z, hz⟩ : ∃ z, docH hs = z := ⟨_, rfl⟩
    have HZ := Lib.hid hz
    rw [hz]
    clear hc3 hcA hz
    go_wp2_with fail
    have HD := check_ref06 w4 (.slice A n cp) hs (HV.out.keep hc4) HC.out
    rw [HZ.out] at HD
    refine HD.mono ?_
    rintro e w5 ⟨rfl, hcA⟩
    have hc5 := hc4.seq hcA
    clear HD hcA hc4
    have hzz : (z == z) = true := beq_self_eq_true z
    go_wp2_with fail
    obtain ⟨m, hm⟩ : ∃ m, countTo hs hs.length = m := ⟨_, rfl⟩
    have HO := ops_history w5 (.slice A n cp) hs (HV.out.keep hc5) HC.out
    rw [hm] at HO
    have HM := Lib.hid hm
    clear hm
    refine HO.mono ?_
    rintro e w6 ⟨rfl, hcA⟩
    have hc6 := hc5.seq hcA
    clear HO hcA hc5
    have HP := count_ref06 w6 (.slice A n cp) hs (HV.out.keep hc6) HC.out
    rw [HM.out] at HP
    have HP2 := Lib.hid HP
    clear HP
    go_wp2_with fail
    refine HP2.out.mono ?_
    rintro e w7 ⟨rfl, hcA⟩
    have hc7 := hc6.seq hcA
    clear HP2 hcA hc6
    have hmm : ((m : Int) == (m : Int)) = true := beq_self_eq_true _
    go_wp2_with fail
    go_ret
    exact ⟨rfl, hc7.below⟩
end Go.Proofs.Ytobfanodjdkkoaa
