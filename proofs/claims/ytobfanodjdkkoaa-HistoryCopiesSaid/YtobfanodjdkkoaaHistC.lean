/- Can there be such a history, by the program (history.Check)? No condition but each theorem's own. -/
import Derived.Test.YtobfanodjdkkoaaHistS
set_option linter.unusedVariables false
set_option linter.unusedSimpArgs false
namespace Go.Proofs.Ytobfanodjdkkoaa
open Go.RowKit Go.Maps

def txrOkB (t : Txr) : Bool := txnOk t.ses t.beg t.com t.ops
def allTxn (hs : List Txr) : Bool := (List.range hs.length).all fun i => txrOkB (hs.getD i txrZero)
/-- Is a read's value one that is written to its key? -/
def readOk (M : WM) (x : Opn) : Bool := x.wr || (x.val == 0 || (match M x.val with | some y => y.key == x.key | none => false))
def readsOk (M : WM) (xs : List Opn) : Bool := (List.range xs.length).all fun j => readOk M (xs.getD j opZero)
def allReads (M : WM) (hs : List Txr) : Bool := (List.range hs.length).all fun i => readsOk M (hs.getD i txrZero).ops
theorem all_yes {p : Nat → Bool} {n : Nat} (h : ∀ j, j < n → p j = true) : (List.range n).all p = true := by
  rw [List.all_eq_true]; intro i hi; exact h i (List.mem_range.1 hi)
theorem all_no {p : Nat → Bool} {n j : Nat} (hj : j < n) (h : p j = false) : (List.range n).all p = false := by
  rw [List.all_eq_false]; exact ⟨j, List.mem_range.2 hj, by simp [h]⟩
def bigB (hs : List Txr) : Bool := decide (64 < hs.length) || decide (1024 < countTo hs hs.length)
/-- The error's number. -/
def chkH (hs : List Txr) : Int :=
  if bigB hs then 3 else if allTxn hs then (match histF hs hs.length with | none => 2 | some M => if (stF hs hs.length).isSome then (if allReads M hs then 0 else 2) else 2) else 2
theorem chk_big {hs : List Txr} (h : bigB hs = true) : chkH hs = 3 := by unfold chkH; rw [if_pos h]
theorem chk_txn {hs : List Txr} (h : bigB hs = false) (h1 : allTxn hs = false) : chkH hs = 2 := by unfold chkH; rw [h, h1]; rfl
theorem chk_twice {hs : List Txr} (h : bigB hs = false) (h1 : histF hs hs.length = none) : chkH hs = 2 := by
  unfold chkH; rw [h, h1]; cases allTxn hs <;> rfl
theorem chk_st {hs : List Txr} {M : WM} (h : bigB hs = false) (h1 : histF hs hs.length = some M) (h2 : (stF hs hs.length).isSome = false) : chkH hs = 2 := by
  unfold chkH; rw [h, h1]; dsimp only; rw [h2]; cases allTxn hs <;> rfl
theorem chk_read {hs : List Txr} {M : WM} (h : bigB hs = false) (h1 : histF hs hs.length = some M) (h2 : allReads M hs = false) : chkH hs = 2 := by
  unfold chkH; rw [h, h1]; dsimp only; rw [h2]; cases allTxn hs <;> cases (stF hs hs.length).isSome <;> rfl
theorem chk_ok {hs : List Txr} {M : WM} (h : bigB hs = false) (h0 : allTxn hs = true) (h1 : histF hs hs.length = some M) (h2 : (stF hs hs.length).isSome = true) (h3 : allReads M hs = true) : chkH hs = 0 := by
  unfold chkH; rw [h, h0, h1]; dsimp only; rw [h2, h3]; rfl

set_option maxRecDepth 100000 in
set_option maxHeartbeats 4000000 in
theorem check_history (w : World) (v : Value) (hs : List Txr) (hv : Txns w v hs) (hk : TxnsOk hs) (hn : countTo hs hs.length ≤ 1000000) : Calls Try.prog 13 #[v] w fun e w' => e = .returned (.int .i64 (chkH hs)) ∧ Ch nob w w' := by
  obtain ⟨A, cp, rfl⟩ := hv.shape
  have HV := Lib.hid hv
  have HK := Lib.hid hk
  obtain ⟨_, ⟨_, hlen⟩, _⟩ := hv.at
  obtain ⟨n, hn2⟩ : ∃ n, hs.length = n := ⟨_, rfl⟩
  have HN := Lib.hid hn2
  have HC := Lib.hid hn
  rw [hn2] at HV hlen ⊢
  have HBIG := Lib.hid (show bigB hs = (decide (64 < n) || decide (1024 < countTo hs n)) from by unfold bigB; rw [hn2])
  obtain ⟨m, hm⟩ : ∃ m, countTo hs n = m := ⟨_, rfl⟩
  rw [hm] at HBIG
  have HM := Lib.hid (show countTo hs hs.length = m from by rw [hn2]; exact hm)
  clear hv hk hn2 hn hm
  by_cases h64 : (64 : Int) < n
  · have d64 : decide ((64 : Int) < n) = true := decide_eq_true h64
    have HF := Lib.hid (chk_big (show bigB hs = true from by rw [HBIG.out, decide_eq_true (show 64 < n by omega)]; rfl))
    go_enter Try.func13, Try.ntmps13
    go_wp2_with fail
    go_ret
    exact ⟨ret_int HF.out.symm, Ch.refl _ _⟩
  · have d64 : decide ((64 : Int) < n) = false := decide_eq_false h64
    have HCT := Lib.hid (ops_history w (.slice A n cp) hs HV.out HC.out)
    by_cases hbig : (1024 : Int) < m
    · have dbig : decide ((1024 : Int) < m) = true := decide_eq_true hbig
      have HF := Lib.hid (chk_big (show bigB hs = true from by rw [HBIG.out, decide_eq_true (show 1024 < m by omega), Bool.or_true]))
      go_enter Try.func13, Try.ntmps13
      go_wp2_with fail
      refine HCT.out.mono ?_
      rintro e w1 ⟨rfl, hc1⟩
      rw [HM.out]
      go_wp2_with fail
      go_ret
      exact ⟨ret_int HF.out.symm, hc1⟩
    · have dbig : decide ((1024 : Int) < m) = false := decide_eq_false hbig
      have HSM := Lib.hid (show bigB hs = false from by rw [HBIG.out, decide_eq_false (show ¬ 64 < n by omega), decide_eq_false (show ¬ 1024 < m by omega)]; rfl)
      go_enter Try.func13, Try.ntmps13
      go_wp2_with fail
      refine HCT.out.mono ?_
      rintro e w1 ⟨rfl, hc1⟩
      rw [HM.out]
      clear HCT
      go_wp2_with fail
      go_loopw [23] (fun x wr => ∃ i : Nat, x = .int .i64 i ∧ i ≤ n ∧ Hid (∀ j, j < i → txrOkB (hs.getD j txrZero) = true) ∧ Ch nob w wr) (fun x _ => n - (intOf x).toNat)
      case atStart => exact ⟨0, rfl, Nat.zero_le _, Lib.hid (fun j hj => by omega), hc1⟩
      case round =>
        clear hc1
        obtain ⟨i, rfl, hi, hst, hc⟩ := hrel
        by_cases hlt : i < n
        · have hd : decide ((i : Int) < (n : Int)) = true := decide_eq_true (by omega)
          obtain ⟨ad, u, rfl, hx0, hx1, hx2, hx3, hu⟩ := HV.out.both hc i (by rw [HN.out]; exact hlt)
          have HI := Lib.hid (show i < hs.length from by rw [HN.out]; exact hlt)
          obtain ⟨T, hT⟩ : ∃ T, hs.getD i txrZero = T := ⟨_, rfl⟩
          rw [hT] at hx0 hx1 hx2 hu
          have HX := Lib.hid hT
          obtain ⟨ts, tb, tc, xs⟩ := T
          dsimp only at hx0 hx1 hx2 hu
          obtain ⟨A2, c2, rfl⟩ := hu.shape
          obtain ⟨l, hl⟩ : ∃ l, xs.length = l := ⟨_, rfl⟩
          rw [hl] at hx3 hu
          have HU := Lib.hid ((hu.keep hc).keep ((Ch.refl nob wr).alloc (.cells #[.int .i64 ts, .int .i64 tb, .int .i64 tc, .slice A2 l c2] 33)))
          have hc2 := hc.alloc (.cells #[.int .i64 ts, .int .i64 tb, .int .i64 tc, .slice A2 l c2] 33)
          clear hT hu hc hl
          go_wp2_with fail
          refine (right_txn _ (.slice A2 l c2) xs ts tb tc HU.out).mono ?_
          rintro e w2 ⟨rfl, hc3⟩
          have hc4 := hc2.seq hc3
          clear hc2 hc3 hx0 hx1 hx2 hx3
          have HXO := Lib.hid (show txrOkB (hs.getD i txrZero) = txnOk ts tb tc xs from by rw [HX.out]; rfl)
          cases hok : txnOk ts tb tc xs with
          | true =>
            have HT := Lib.hid (show ∀ j, j < i + 1 → txrOkB (hs.getD j txrZero) = true from fun j hj => by
              by_cases e : j = i
              · rw [e, HXO.out]; exact hok
              · exact hst.out j (by omega))
            clear hok
            go_wp2_with fail
            go_roundw
            case rel => exact ⟨i + 1, by go_num, by omega, HT, hc4⟩
            case measure => simp [intOf]; omega
          | false =>
            have HF := Lib.hid (chk_txn HSM.out (all_no HI.out (by rw [HXO.out]; exact hok)))
            clear hok
            go_wp2_with fail
            go_ret
            exact ⟨ret_int HF.out.symm, hc4⟩
        · have hd : decide ((i : Int) < (n : Int)) = false := decide_eq_false (by omega)
          obtain rfl : n = i := by omega
          have HALL := Lib.hid (show allTxn hs = true from all_yes (fun j hj => hst.out j (by have := HN.out; omega)))
          go_wp2_with fail
          refine (writes_history _ _ hs (HV.out.keep hc) HK.out HC.out).mono ?_
          rintro e w2 ⟨hres, hc2⟩
          have hc3 := hc.seq hc2
          have HW := Lib.hid (stamps_history w2 (.slice A n cp) hs (HV.out.keep hc3) HK.out (by have := HN.out; omega))
          rcases hres with ⟨b, M, rfl, hM, hmap⟩ | ⟨b, rfl, hM⟩
          · have HMM := Lib.hid hM
            have HMAP := Lib.hid hmap
            clear hM hmap hc hc2
            go_wp2_with fail
            refine HW.out.mono ?_
            rintro e w3 ⟨rfl, hc4⟩
            have hc5 := hc3.seq hc4
            have HMP := Lib.hid (HMAP.out.keep hc4)
            clear HW HMAP hc4 hc3
            cases hst2 : (stF hs hs.length).isSome with
            | false =>
              have HF := Lib.hid (chk_st HSM.out HMM.out hst2)
              clear hst2
              go_wp2_with fail
              go_ret
              exact ⟨ret_int HF.out.symm, hc5⟩
            | true =>
              have HST := Lib.hid hst2
              clear hst2
              go_wp2_with fail
              go_loopw [45] (fun x wr => ∃ i : Nat, x = .int .i64 i ∧ i ≤ n ∧ Hid (∀ j, j < i → readsOk M (hs.getD j txrZero).ops = true) ∧ Hid (IMap Try.prog 3 wr b (wrT hs hs.length) (wmF M)) ∧ Ch nob w wr) (fun x _ => n - (intOf x).toNat)
              case atStart => exact ⟨0, rfl, Nat.zero_le _, Lib.hid (fun j hj => by omega), HMP, hc5⟩
              case round =>
                clear hc5 HMP
                obtain ⟨j, rfl, hj, hst3, hmp, hc⟩ := hrel
                by_cases hlt2 : j < n
                · have hd2 : decide ((j : Int) < (n : Int)) = true := decide_eq_true (by omega)
                  obtain ⟨ad, u, rfl, hx0, hx1, hx2, hx3, hu⟩ := HV.out.both hc j (by rw [HN.out]; exact hlt2)
                  have HI := Lib.hid (show j < hs.length from by rw [HN.out]; exact hlt2)
                  have hok := (HK.out j (by rw [HN.out]; exact hlt2)).1
                  obtain ⟨T, hT⟩ : ∃ T, hs.getD j txrZero = T := ⟨_, rfl⟩
                  rw [hT] at hx0 hx1 hx2 hu hok
                  have HX := Lib.hid (show (hs.getD j txrZero).ops = T.ops from by rw [hT])
                  obtain ⟨ts, tb, tc, xs⟩ := T
                  dsimp only at hx0 hx1 hx2 hu hok HX
                  obtain ⟨A2, c2, rfl⟩ := hu.shape
                  obtain ⟨l, hl⟩ : ∃ l, xs.length = l := ⟨_, rfl⟩
                  rw [hl] at hx3 hu
                  have hll : l ≤ 9223372036854775807 := by have := hu.at.2.1.2; omega
                  have HL := Lib.hid hl
                  have HU := Lib.hid hu
                  have HO := Lib.hid hok
                  have hcA : Ch nob wr (wr.alloc (.cells #[.int .i64 ts, .int .i64 tb, .int .i64 tc, .slice A2 l c2] 33)) := (Ch.refl _ _).alloc _
                  have hmp2 := Lib.hid (hmp.out.keep hcA)
                  have hc2 := hc.seq hcA
                  clear hT hu hc hl hok hmp hcA
                  go_wp2_with fail
                  obtain ⟨wo, hwo⟩ : ∃ wo, wr.alloc (.cells #[.int .i64 ts, .int .i64 tb, .int .i64 tc, .slice A2 l c2] 33) = wo := ⟨_, rfl⟩
                  rw [hwo] at hmp2 hc2 ⊢
                  clear hwo hx0 hx1 hx2 hx3
                  go_loopw [52] (fun x wr => ∃ k : Nat, x = .int .i64 k ∧ k ≤ l ∧ Hid (∀ j, j < k → readOk M (xs.getD j opZero) = true) ∧ Hid (IMap Try.prog 3 wr b (wrT hs hs.length) (wmF M)) ∧ Ch nob w wr) (fun x _ => l - (intOf x).toNat)
                  case atStart => exact ⟨0, rfl, Nat.zero_le _, Lib.hid (fun j hj => by omega), hmp2, hc2⟩
                  case round =>
                    clear hc2 hmp2
                    obtain ⟨k, rfl, hk, hst4, hmp, hc⟩ := hrel
                    by_cases hlt3 : k < l
                    · have hd3 : decide ((k : Int) < (l : Int)) = true := decide_eq_true (by omega)
                      obtain ⟨ad2, rfl, hy0, hy1, hy2⟩ := (HU.out.keep hc).at.2.2 k (by rw [HL.out]; exact hlt3)
                      have hwf := HO.out.2 k (by rw [HL.out]; exact hlt3)
                      obtain ⟨x, hx⟩ : ∃ x, xs.getD k opZero = x := ⟨_, rfl⟩
                      rw [hx] at hy0 hy1 hy2 hwf
                      obtain ⟨xw, xk, xv⟩ := x
                      have hcB : Ch nob wr (wr.alloc (.cells #[.bool xw, .int .i64 xk, .int .i64 xv] 35)) := (Ch.refl _ _).alloc _
                      have hm1 := hmp.out.keep hcB
                      have hc3 := hc.seq hcB
                      have HRO := Lib.hid (show readOk M (xs.getD k opZero) = (xw || (xv == 0 || (match M xv with | some y => y.key == xk | none => false))) from by rw [hx]; rfl)
                      have hyes : readOk M (xs.getD k opZero) = true → Hid (∀ j, j < k + 1 → readOk M (xs.getD j opZero) = true) := fun h => Lib.hid (fun j hj => by
                        by_cases e : j = k
                        · rw [e]; exact h
                        · exact hst4.out j (by omega))
                      have HYES := Lib.hid hyes
                      have hno : readOk M (xs.getD k opZero) = false → Hid (chkH hs = 2) := fun h => Lib.hid (chk_read HSM.out HMM.out (all_no HI.out (by
                        rw [HX.out]; exact all_no (show k < xs.length from by rw [HL.out]; exact hlt3) h)))
                      have HNO := Lib.hid hno
                      clear hx hc hcB hyes hno hmp
                      cases hMx : M xv with
                      | none =>
                        have hlk : wmF M xv = none := by unfold wmF; rw [hMx]; rfl
                        have HR2 := Lib.hid (show readOk M (xs.getD k opZero) = (xw || (xv == 0 || false)) from by rw [HRO.out, hMx])
                        clear hMx HRO
                        have hcW : Ch nob (wr.alloc (.cells #[.bool xw, .int .i64 xk, .int .i64 xv] 35)) ((wr.alloc (.cells #[.bool xw, .int .i64 xk, .int .i64 xv] 35)).alloc (.cells #[.int .i64 0, .int .i64 0, .bool false] 37)) := (Ch.refl _ _).alloc _
                        have hm9 := Lib.hid (hm1.keep hcW)
                        have hc9 := hc3.seq hcW
                        cases xw with
                        | true =>
                          have HT := HYES.out (by rw [HR2.out]; rfl)
                          go_wp2_with (at_lookup; refine wpList_imap_look _ rfl _ _ 28 rfl 3 37 under_int under_miw _ (zero_w _) _ _ _ rfl hm1 _ rfl hwf ?_; rw [hlk]; simp only [Option.getD_none, Option.getD_some, Option.isSome_none, Option.isSome_some])
                          go_roundw
                          case rel => exact ⟨k + 1, by go_num, by omega, HT, hm9, hc9⟩
                          case measure => simp [intOf]; omega
                        | false =>
                          cases hx0 : (xv == 0) with
                          | true =>
                            have hx1 : (xv != 0) = false := by unfold bne; rw [hx0]; rfl
                            have HT := HYES.out (by rw [HR2.out, hx0]; rfl)
                            go_wp2_with (at_lookup; refine wpList_imap_look _ rfl _ _ 28 rfl 3 37 under_int under_miw _ (zero_w _) _ _ _ rfl hm1 _ rfl hwf ?_; rw [hlk]; simp only [Option.getD_none, Option.getD_some, Option.isSome_none, Option.isSome_some])
                            go_roundw
                            case rel => exact ⟨k + 1, by go_num, by omega, HT, hm9, hc9⟩
                            case measure => simp [intOf]; omega
                          | false =>
                            have hx1 : (xv != 0) = true := by unfold bne; rw [hx0]; rfl
                            have HF := HNO.out (by rw [HR2.out, hx0]; rfl)
                            go_wp2_with (at_lookup; refine wpList_imap_look _ rfl _ _ 28 rfl 3 37 under_int under_miw _ (zero_w _) _ _ _ rfl hm1 _ rfl hwf ?_; rw [hlk]; simp only [Option.getD_none, Option.getD_some, Option.isSome_none, Option.isSome_some])
                            go_ret
                            exact ⟨ret_int HF.out.symm, hc9⟩
                      | some y =>
                        obtain ⟨yt, yk, yl⟩ := y
                        have hlk : wmF M xv = some (.agg #[.int .i64 yt, .int .i64 yk, .bool yl]) := by unfold wmF; rw [hMx]; rfl
                        have HR2 := Lib.hid (show readOk M (xs.getD k opZero) = (xw || (xv == 0 || yk == xk)) from by rw [HRO.out, hMx])
                        clear hMx HRO
                        have hcW : Ch nob (wr.alloc (.cells #[.bool xw, .int .i64 xk, .int .i64 xv] 35)) ((wr.alloc (.cells #[.bool xw, .int .i64 xk, .int .i64 xv] 35)).alloc (.cells #[.int .i64 yt, .int .i64 yk, .bool yl] 37)) := (Ch.refl _ _).alloc _
                        have hm9 := Lib.hid (hm1.keep hcW)
                        have hc9 := hc3.seq hcW
                        cases xw with
                        | true =>
                          have HT := HYES.out (by rw [HR2.out]; rfl)
                          go_wp2_with (at_lookup; refine wpList_imap_look _ rfl _ _ 28 rfl 3 37 under_int under_miw _ (zero_w _) _ _ _ rfl hm1 _ rfl hwf ?_; rw [hlk]; simp only [Option.getD_none, Option.getD_some, Option.isSome_none, Option.isSome_some])
                          go_roundw
                          case rel => exact ⟨k + 1, by go_num, by omega, HT, hm9, hc9⟩
                          case measure => simp [intOf]; omega
                        | false =>
                          cases hx0 : (xv == 0) with
                          | true =>
                            have hx1 : (xv != 0) = false := by unfold bne; rw [hx0]; rfl
                            have HT := HYES.out (by rw [HR2.out, hx0]; rfl)
                            go_wp2_with (at_lookup; refine wpList_imap_look _ rfl _ _ 28 rfl 3 37 under_int under_miw _ (zero_w _) _ _ _ rfl hm1 _ rfl hwf ?_; rw [hlk]; simp only [Option.getD_none, Option.getD_some, Option.isSome_none, Option.isSome_some])
                            go_roundw
                            case rel => exact ⟨k + 1, by go_num, by omega, HT, hm9, hc9⟩
                            case measure => simp [intOf]; omega
                          | false =>
                            have hx1 : (xv != 0) = true := by unfold bne; rw [hx0]; rfl
                            cases hy3 : (yk == xk) with
                            | true =>
                              have hy4 : (yk != xk) = false := by unfold bne; rw [hy3]; rfl
                              have HT := HYES.out (by rw [HR2.out, hx0, hy3]; rfl)
                              go_wp2_with (at_lookup; refine wpList_imap_look _ rfl _ _ 28 rfl 3 37 under_int under_miw _ (zero_w _) _ _ _ rfl hm1 _ rfl hwf ?_; rw [hlk]; simp only [Option.getD_none, Option.getD_some, Option.isSome_none, Option.isSome_some])
                              go_roundw
                              case rel => exact ⟨k + 1, by go_num, by omega, HT, hm9, hc9⟩
                              case measure => simp [intOf]; omega
                            | false =>
                              have hy4 : (yk != xk) = true := by unfold bne; rw [hy3]; rfl
                              have HF := HNO.out (by rw [HR2.out, hx0, hy3]; rfl)
                              go_wp2_with (at_lookup; refine wpList_imap_look _ rfl _ _ 28 rfl 3 37 under_int under_miw _ (zero_w _) _ _ _ rfl hm1 _ rfl hwf ?_; rw [hlk]; simp only [Option.getD_none, Option.getD_some, Option.isSome_none, Option.isSome_some])
                              go_ret
                              exact ⟨ret_int HF.out.symm, hc9⟩
                    · have hd3 : decide ((k : Int) < (l : Int)) = false := decide_eq_false (by omega)
                      obtain rfl : k = l := by omega
                      have HT := Lib.hid (show ∀ i, i < j + 1 → readsOk M (hs.getD i txrZero).ops = true from fun i hi => by
                        by_cases e : i = j
                        · rw [e, HX.out]; exact all_yes (fun q hq => hst4.out q (by have := HL.out; omega))
                        · exact hst3.out i (by omega))
                      go_wp2_with fail
                      go_roundw
                      case rel => exact ⟨j + 1, by go_num, by omega, HT, hmp, hc⟩
                      case measure => simp [intOf]; omega
                · have hd2 : decide ((j : Int) < (n : Int)) = false := decide_eq_false (by omega)
                  have HF := Lib.hid (chk_ok HSM.out HALL.out HMM.out HST.out (all_yes (fun q hq => hst3.out q (by have := HN.out; omega))))
                  go_wp2_with fail
                  go_ret
                  exact ⟨ret_int HF.out.symm, hc⟩
          · have HF := Lib.hid (chk_twice HSM.out hM)
            clear hM HW
            go_wp2_with fail
            go_ret
            exact ⟨ret_int HF.out.symm, hc3⟩
end Go.Proofs.Ytobfanodjdkkoaa
