/- Operations and transactions in words (op.Text, txn.Text): the walks. No condition but each theorem's own. -/
import Derived.Test.YtobfanodjdkkoaaDoorJoin
import Derived.Test.YtobfanodjdkkoaaDoorOpl
set_option linter.unusedVariables false
set_option linter.unusedSimpArgs false
namespace Go.Proofs.YtobfanodjdkkoaaDoor
open Go.RowKit Go.Proofs

theorem str_append (a b : List UInt8) : (⟨a.toArray⟩ : ByteArray) ++ ⟨b.toArray⟩ = ⟨(a ++ b).toArray⟩ := by
  apply ByteArray.ext
  simp
theorem elem_ints_of {w : World} {g : Nat} {xs : List Int} {T : TypeId} (h : Blk w g (xs.map (Value.int .i64)).toArray T) (hl : xs.length ≤ 1000) : Ints w (.slice (some ⟨g, 0, none⟩) xs.length xs.length) xs := by
  refine ⟨_, _, rfl, by omega, fun _ => ⟨_, rfl, fun j hj => ?_⟩⟩
  rw [show (⟨g, 0, none⟩ : Addr).add j = ⟨g, j, none⟩ from by unfold Addr.add; split <;> simp_all]
  refine Blk.cell h ?_
  rw [List.getElem?_toArray, List.getElem?_map, List.getD_eq_getElem?_getD, List.getElem?_eq_getElem hj]
  rfl
/-- An operation in words. -/
def opB (x : Opn) : List UInt8 := joinB (if x.wr then [119] else [114]) [x.key, x.val]
def ItoaFit (w : World) (n : Int) : Prop := ItoaOk w n ∧ (Lib.itoa n).length ≤ 21
theorem ItoaFit.keep {w w' : World} {n : Int} (h : ItoaFit w n) (hc : Ch nob w w') : ItoaFit w' n := ⟨h.1.keep hc, h.2⟩
set_option maxRecDepth 100000 in
set_option maxHeartbeats 2000000 in
theorem text_op (w : World) (x : Opn) (hk : ItoaFit w x.key) (hv : ItoaFit w x.val) :
    Calls Tryd.prog 16 #[.agg #[.bool x.wr, .int .i64 x.key, .int .i64 x.val]] w fun e w' => e = .returned (.string ⟨(opB x).toArray⟩) ∧ Ch nob w w' := by
  obtain ⟨xw, xk, xv⟩ := x
  dsimp only at hk hv ⊢
  have hc0 : Ch nob w ((w.alloc (.cells #[.bool xw, .int .i64 xk, .int .i64 xv] 33)).alloc (.cells #[.int .i64 xk, .int .i64 xv] 3)) := ((Ch.refl _ _).alloc _).alloc _
  have hb0 := Blk.new (w.alloc (.cells #[.bool xw, .int .i64 xk, .int .i64 xv] 33)) #[.int .i64 xk, .int .i64 xv] 3
  have hi := elem_ints_of (xs := [xk, xv]) hb0 (by simp)
  have HI := Lib.hid (show Ints ((w.alloc (.cells #[.bool xw, .int .i64 xk, .int .i64 xv] 33)).alloc (.cells #[.int .i64 xk, .int .i64 xv] 3)) (.slice (some ⟨w.heap.size + 1, 0, none⟩) 2 2) [xk, xv] from by simpa using hi)
  have HF := Lib.hid (show ∀ n ∈ [xk, xv], ItoaOk ((w.alloc (.cells #[.bool xw, .int .i64 xk, .int .i64 xv] 33)).alloc (.cells #[.int .i64 xk, .int .i64 xv] 3)) n ∧ (Lib.itoa n).length ≤ 21 from fun n hn => by
    rcases List.mem_cons.1 hn with rfl | hn
    · exact hk.keep hc0
    · rcases List.mem_cons.1 hn with rfl | hn
      · exact hv.keep hc0
      · cases hn)
  cases xw with
  | true =>
    have HJ := Lib.hid (join_token _ ⟨#[119]⟩ _ [xk, xv] HI.out (by decide) (by decide) (by simp) HF.out)
    have HR := Lib.hid (show opB ⟨true, xk, xv⟩ = joinB [119] [xk, xv] from rfl)
    obtain ⟨R, hR⟩ : ∃ R, joinB [119] [xk, xv] = R := ⟨_, rfl⟩
    rw [show (⟨#[119]⟩ : ByteArray).data.toList = [119] from rfl] at HJ
    rw [hR] at HJ HR
    clear hb0 hi HI HF hk hv hR
    go_enter Tryd.func16, Tryd.ntmps16
    go_wp2_with fail
    refine HJ.out.mono ?_
    rintro e w2 ⟨rfl, hc2⟩
    have hc3 := hc0.seq hc2
    go_wp2_with fail
    go_ret
    exact ⟨by rw [HR.out]; rfl, hc3⟩
  | false =>
    have HJ := Lib.hid (join_token _ ⟨#[114]⟩ _ [xk, xv] HI.out (by decide) (by decide) (by simp) HF.out)
    have HR := Lib.hid (show opB ⟨false, xk, xv⟩ = joinB [114] [xk, xv] from rfl)
    obtain ⟨R, hR⟩ : ∃ R, joinB [114] [xk, xv] = R := ⟨_, rfl⟩
    rw [show (⟨#[114]⟩ : ByteArray).data.toList = [114] from rfl] at HJ
    rw [hR] at HJ HR
    clear hb0 hi HI HF hk hv hR
    go_enter Tryd.func16, Tryd.ntmps16
    go_wp2_with fail
    refine HJ.out.mono ?_
    rintro e w2 ⟨rfl, hc2⟩
    have hc3 := hc0.seq hc2
    go_wp2_with fail
    go_ret
    exact ⟨by rw [HR.out]; rfl, hc3⟩
/-- A transaction in words, so far. -/
def textTo (t : Txr) : Nat → List UInt8
  | 0 => joinB [116, 120, 110] [t.ses, t.beg, t.com] ++ [10]
  | j + 1 => textTo t j ++ (opB (t.ops.getD j opZero) ++ [10])
def textB (t : Txr) : List UInt8 := textTo t t.ops.length
theorem opB_len {x : Opn} (h1 : (Lib.itoa x.key).length ≤ 21) (h2 : (Lib.itoa x.val).length ≤ 21) : (opB x).length ≤ 45 := by
  have h := joinTo_len (if x.wr then [119] else [114]) [x.key, x.val] (fun n hn => by
    rcases List.mem_cons.1 hn with rfl | hn
    · exact h1
    · rcases List.mem_cons.1 hn with rfl | hn
      · exact h2
      · cases hn) 2 (by simp)
  have h3 : (if x.wr then [119] else [114] : List UInt8).length = 1 := by cases x.wr <;> rfl
  unfold opB joinB
  show (joinTo _ _ 2).length ≤ 45
  omega
theorem textTo_len {t : Txr} (h0 : (Lib.itoa t.ses).length ≤ 21) (h1 : (Lib.itoa t.beg).length ≤ 21) (h2 : (Lib.itoa t.com).length ≤ 21) (hx : ∀ x ∈ t.ops, (Lib.itoa x.key).length ≤ 21 ∧ (Lib.itoa x.val).length ≤ 21) : ∀ j, j ≤ t.ops.length → (textTo t j).length ≤ 70 + 46 * j
  | 0, _ => by
    have h := joinTo_len [116, 120, 110] [t.ses, t.beg, t.com] (fun n hn => by
      rcases List.mem_cons.1 hn with rfl | hn
      · exact h0
      · rcases List.mem_cons.1 hn with rfl | hn
        · exact h1
        · rcases List.mem_cons.1 hn with rfl | hn
          · exact h2
          · cases hn) 3 (by simp)
    unfold textTo joinB
    rw [List.length_append]
    show (joinTo _ _ 3).length + 1 ≤ _
    have h3 : ([116, 120, 110] : List UInt8).length = 3 := rfl
    omega
  | j + 1, hj => by
    have ih := textTo_len h0 h1 h2 hx j (by omega)
    have hm : t.ops.getD j opZero ∈ t.ops := by
      rw [List.getD_eq_getElem?_getD, List.getElem?_eq_getElem (by omega)]
      exact List.getElem_mem _
    have h3 := opB_len (hx _ hm).1 (hx _ hm).2
    unfold textTo
    rw [List.length_append, List.length_append]
    show _ + (_ + 1) ≤ _
    omega
set_option maxRecDepth 100000 in
set_option maxHeartbeats 2000000 in
theorem text_txn (w : World) (t : Txr) (u : Value) (hu : Opl w u t.ops) (hnn : t.ops.length ≤ 1000000) (h0 : ItoaFit w t.ses) (h1 : ItoaFit w t.beg) (h2 : ItoaFit w t.com) (hx : ∀ x ∈ t.ops, ItoaFit w x.key ∧ ItoaFit w x.val) :
    Calls Tryd.prog 18 #[.agg #[.int .i64 t.ses, .int .i64 t.beg, .int .i64 t.com, u]] w fun e w' => e = .returned (.string ⟨(textB t).toArray⟩) ∧ Ch nob w w' := by
  have HT0 := Lib.hid (show textTo t 0 = joinB [116, 120, 110] [t.ses, t.beg, t.com] ++ [10] from rfl)
  have HTS := Lib.hid (fun j => show textTo t (j + 1) = textTo t j ++ (opB (t.ops.getD j opZero) ++ [10]) from rfl)
  have HTE := Lib.hid (show textB t = textTo t t.ops.length from rfl)
  have hTL := textTo_len h0.2 h1.2 h2.2 (fun x hm => ⟨(hx x hm).1.2, (hx x hm).2.2⟩)
  have hJL : (joinB [116, 120, 110] [t.ses, t.beg, t.com]).length ≤ 70 := by
    have h := hTL 0 (Nat.zero_le _)
    rw [HT0.out, List.length_append] at h
    omega
  obtain ⟨TT, hTT⟩ : ∃ q, textTo t = q := ⟨_, rfl⟩
  obtain ⟨TE, hTE⟩ : ∃ q, textB t = q := ⟨_, rfl⟩
  rw [hTT] at HT0 HTS HTE hTL
  rw [hTE] at HTE ⊢
  obtain ⟨ts, tb, tc, xs⟩ := t
  dsimp only at hu h0 h1 h2 hx HT0 HTS HTE hTL hJL hnn ⊢
  obtain ⟨A, cp, rfl⟩ := hu.shape
  obtain ⟨n, hn⟩ : ∃ n, xs.length = n := ⟨_, rfl⟩
  have hnl : n ≤ 9223372036854775807 := by have := hu.at.2.1.2; rw [hn] at this; exact this
  have HN := Lib.hid hn
  rw [hn] at hu HTE hTL hnn ⊢
  have HU := Lib.hid hu
  have HTL := Lib.hid hTL
  have HX := Lib.hid hx
  have hcA : Ch nob w (w.alloc (.cells #[.int .i64 ts, .int .i64 tb, .int .i64 tc, .slice A n cp] 26)) := (Ch.refl _ _).alloc _
  have hc0 := hcA.alloc (.cells #[.int .i64 ts, .int .i64 tb, .int .i64 tc] 3)
  have hb0 := Blk.new (w.alloc (.cells #[.int .i64 ts, .int .i64 tb, .int .i64 tc, .slice A n cp] 26)) #[.int .i64 ts, .int .i64 tb, .int .i64 tc] 3
  have hi := elem_ints_of (xs := [ts, tb, tc]) hb0 (by simp)
  have HB := Lib.hid ((Blk.new w #[.int .i64 ts, .int .i64 tb, .int .i64 tc, .slice A n cp] 26).alloc (.cells #[.int .i64 ts, .int .i64 tb, .int .i64 tc] 3))
  have HI : Ints ((w.alloc (.cells #[.int .i64 ts, .int .i64 tb, .int .i64 tc, .slice A n cp] 26)).alloc (.cells #[.int .i64 ts, .int .i64 tb, .int .i64 tc] 3)) (.slice (some ⟨w.heap.size + 1, 0, none⟩) 3 3) [ts, tb, tc] := by simpa using hi
  have HF : ∀ n' ∈ [ts, tb, tc], ItoaOk ((w.alloc (.cells #[.int .i64 ts, .int .i64 tb, .int .i64 tc, .slice A n cp] 26)).alloc (.cells #[.int .i64 ts, .int .i64 tb, .int .i64 tc] 3)) n' ∧ (Lib.itoa n').length ≤ 21 := fun n' hn' => by
    rcases List.mem_cons.1 hn' with rfl | hn'
    · exact h0.keep hc0
    · rcases List.mem_cons.1 hn' with rfl | hn'
      · exact h1.keep hc0
      · rcases List.mem_cons.1 hn' with rfl | hn'
        · exact h2.keep hc0
        · cases hn'
  have HJ := Lib.hid (join_token _ ⟨#[116, 120, 110]⟩ _ [ts, tb, tc] HI (by decide) (by decide) (by simp) HF)
  rw [show (⟨#[116, 120, 110]⟩ : ByteArray).data.toList = [116, 120, 110] from rfl] at HJ
  obtain ⟨R, hR⟩ : ∃ R, joinB [116, 120, 110] [ts, tb, tc] = R := ⟨_, rfl⟩
  rw [hR] at HJ HT0 hJL
  have hq0 : ¬ 9223372036854775807 < R.length + 1 := by omega
  have happ := str_append R [10]
  rw [← HT0.out] at happ
  have HAPP := Lib.hid (show (⟨R.toArray⟩ : ByteArray) ++ ⟨#[10]⟩ = ⟨(TT 0).toArray⟩ from happ)
  clear hu hx hn hcA hb0 hi HI HF h0 h1 h2 hR happ hTT hTE hTL hJL
  go_enter Tryd.func18, Tryd.ntmps18
  go_wp2_with fail
  refine HJ.out.mono ?_
  rintro e w2 ⟨rfl, hc2⟩
  have hc3 := hc0.seq hc2
  have hb2 := HB.out.ch hc2 (fun h => h)
  have hp3 := hb2.cell (i := 3) (v := .slice A n cp) rfl
  clear HJ hc0 hc2 HB hb2
  go_wp2_with fail
  rw [HAPP.out]
  go_loopw [18, 3] (fun x y wr => ∃ j : Nat, x = .int .i64 j ∧ j ≤ n ∧ y = .string ⟨(TT j).toArray⟩ ∧ Ch nob w wr) (fun x _ _ => n - (intOf x).toNat)
  case atStart => exact ⟨0, rfl, Nat.zero_le _, rfl, hc3⟩
  case round =>
    clear hc3 hp3
    obtain ⟨j, rfl, hj, rfl, hc⟩ := hrel
    by_cases hlt : j < n
    · have hd : decide ((j : Int) < (n : Int)) = true := decide_eq_true (by omega)
      obtain ⟨ad, rfl, hx0, hx1, hx2⟩ := (HU.out.keep hc).at.2.2 j (by rw [HN.out]; exact hlt)
      have hxm : xs.getD j opZero ∈ xs := by
        rw [List.getD_eq_getElem?_getD, List.getElem?_eq_getElem (by rw [HN.out]; exact hlt)]
        exact List.getElem_mem _
      have hst := HTS.out j
      have hfit := HX.out _ hxm
      obtain ⟨x, hxx⟩ : ∃ x, xs.getD j opZero = x := ⟨_, rfl⟩
      rw [hxx] at hx0 hx1 hx2 hst hfit
      obtain ⟨xw, xk, xv⟩ := x
      dsimp only at hx0 hx1 hx2 hfit
      have hcB := hc.alloc (.cells #[.bool xw, .int .i64 xk, .int .i64 xv] 33)
      have HO := text_op (wr.alloc (.cells #[.bool xw, .int .i64 xk, .int .i64 xv] 33)) ⟨xw, xk, xv⟩ (hfit.1.keep hcB) (hfit.2.keep hcB)
      dsimp only at HO
      have hol := opB_len (x := ⟨xw, xk, xv⟩) hfit.1.2 hfit.2.2
      obtain ⟨R2, hR2⟩ : ∃ q, opB ⟨xw, xk, xv⟩ = q := ⟨_, rfl⟩
      rw [hR2] at HO hst hol
      have htl := HTL.out j (by omega)
      have hq1 : ¬ 9223372036854775807 < R2.length + 1 := by omega
      have hq2 : ¬ 9223372036854775807 < (TT j).length + (R2.length + 1) := by omega
      have HO2 := Lib.hid HO
      have HST := Lib.hid hst
      have e1 : (⟨R2.toArray⟩ : ByteArray) ++ ⟨#[10]⟩ = ⟨(R2 ++ [10]).toArray⟩ := str_append R2 [10]
      have e2 : (⟨(TT j).toArray⟩ : ByteArray) ++ ⟨(R2 ++ [10]).toArray⟩ = ⟨(TT (j + 1)).toArray⟩ := by rw [str_append, hst]
      have E1 := Lib.hid e1
      have E2 := Lib.hid e2
      clear hxm hst hfit hxx HO hR2 hc e1 e2 hol htl
      go_wp2_with fail
      refine HO2.out.mono ?_
      rintro e w4 ⟨rfl, hc4⟩
      have hc5 := hcB.seq hc4
      clear HO2 hcB hc4 hx0 hx1 hx2
      go_wp2_with fail
      rw [E1.out, E2.out]
      go_roundw
      case rel => exact ⟨j + 1, by go_num, by omega, rfl, hc5⟩
      case measure => simp [intOf]; omega
    · have hd : decide ((j : Int) < (n : Int)) = false := decide_eq_false (by omega)
      obtain rfl : j = n := by omega
      go_wp2_with fail
      go_ret
      exact ⟨by rw [HTE.out]; rfl, hc⟩
end Go.Proofs.YtobfanodjdkkoaaDoor
