/- The law HistoryTwice: where a value is written twice it is told. No condition but each theorem's own. -/
import Derived.Test.YtobfanodjdkkoaaHistL1
set_option linter.unusedVariables false
set_option linter.unusedSimpArgs false
namespace Go.Proofs.Ytobfanodjdkkoaa
open Go.RowKit Go.Maps

/-- How often each value was seen. -/
def cntF (g : Int → Nat) : Int → Option Value := fun v => if g v = 0 then none else some (.int .i64 (g v))
theorem cntF_get (g : Int → Nat) (v : Int) : (cntF g v).getD (.int .i64 0) = .int .i64 (g v) := by
  unfold cntF
  split
  · rename_i h; rw [h]; rfl
  · rfl
theorem cntF_put (g : Int → Nat) (v : Int) : putM (cntF g) v (.int .i64 (((g v + 1 : Nat)) : Int)) = cntF fun x => g x + if x = v then 1 else 0 := by
  funext x
  unfold putM cntF
  by_cases e : x = v
  · subst e
    simp
  · simp [e]
theorem cnt_step (hs : List Txr) (i : Nat) (xs : List Opn) (j : Nat) (x : Opn) (hx : xs.getD j opZero = x) (hw : x.wr = true) : (fun u => (tmT hs u i + tmN xs u j) + if u = x.val then 1 else 0) = fun u => tmT hs u i + tmN xs u (j + 1) := by
  funext u
  have : tmN xs u (j + 1) = tmN xs u j + if isW u x then 1 else 0 := by rw [← hx]; rfl
  rw [this]
  unfold isW
  rw [hw]
  by_cases e : u = x.val
  · subst e; simp; omega
  · rw [if_neg e, if_neg (by simp; exact fun e2 => e e2.symm)]; omega
theorem cnt_read (hs : List Txr) (i : Nat) (xs : List Opn) (j : Nat) (x : Opn) (hx : xs.getD j opZero = x) (hw : x.wr = false) : (fun u => tmT hs u i + tmN xs u j) = fun u => tmT hs u i + tmN xs u (j + 1) := by
  funext u
  have : tmN xs u (j + 1) = tmN xs u j + if isW u x then 1 else 0 := by rw [← hx]; rfl
  rw [this]
  unfold isW
  rw [hw]
  simp
/-- Was any value seen twice? -/
def Twice (g : Int → Nat) (b : Bool) : Prop := (b = true → ∃ v, 2 ≤ g v) ∧ (b = false → ∀ v, g v ≤ 1)
theorem Twice.le {g h : Int → Nat} (t : Twice g true) (hl : ∀ v, g v ≤ h v) : Twice h true := by
  obtain ⟨v, hv⟩ := t.1 rfl
  exact ⟨fun _ => ⟨v, Nat.le_trans hv (hl v)⟩, fun h => by cases h⟩
theorem Twice.hist {hs : List Txr} {b : Bool} (t : Twice (fun v => tmT hs v hs.length) b) : (histF hs hs.length).isSome = !b := by
  cases e : histF hs hs.length with
  | none =>
    obtain ⟨_, _, v, _, _, _, h⟩ := histF_fail e
    cases b with
    | true => rfl
    | false => have := t.2 rfl v; dsimp only at this; omega
  | some M =>
    cases b with
    | false => rfl
    | true =>
      obtain ⟨v, hv⟩ := t.1 rfl
      have := (goodH e).cnt v
      unfold b2n at this
      dsimp only at hv
      split at this <;> omega
/-- Writes, by whether it is told. -/
theorem writes_ok (w : World) (v : Value) (hs : List Txr) (hv : Txns w v hs) (hk : TxnsOk hs) (hn : countTo hs hs.length ≤ 1000000) (q : Bool) (hq : (histF hs hs.length).isSome = q) : Calls Try.prog 17 #[v] w fun e w' => (∃ b, e = .returned (.tuple #[.map (some b), .bool q])) ∧ Ch nob w w' := by
  refine (writes_history w v hs hv hk hn).mono ?_
  rintro e w' ⟨h, hc⟩
  rcases h with ⟨b, N, rfl, hN, _⟩ | ⟨b, rfl, hN⟩
  · rw [hN] at hq; subst hq; exact ⟨⟨b, rfl⟩, hc⟩
  · rw [hN] at hq; subst hq; exact ⟨⟨b, rfl⟩, hc⟩
set_option maxRecDepth 100000 in
set_option maxHeartbeats 4000000 in
theorem law_historytwice (w : World) (v : Value) (hs : List Txr) (hv : Txns w v hs) (hk : TxnsOk hs) (hL : LensOk hs) : Calls Try.prog 5 #[v] w fun e w' => e = .returned (.bool true) ∧ Below w.heap.size w w' := by
  obtain ⟨A, cp, rfl⟩ := hv.shape
  have HV := Lib.hid hv
  have HK := Lib.hid hk
  have HLN := Lib.hid hL
  have hmm := @run_makeMap Try.prog
  obtain ⟨_, ⟨_, hlen⟩, _⟩ := hv.at
  obtain ⟨n, hn2⟩ : ∃ n, hs.length = n := ⟨_, rfl⟩
  have HN := Lib.hid hn2
  rw [hn2] at HV hlen ⊢
  clear hv hk hL hn2
  go_enter Try.func5, Try.ntmps5
  go_wp2_with fail
  refine (speaks06 _).mono ?_
  rintro e w1 ⟨rfl, hc1⟩
  go_wp2_with fail
  refine (big06 _ _ hs (HV.out.keep hc1) HLN.out).mono ?_
  rintro e w2 ⟨rfl, hc2⟩
  have hc3 := hc1.seq hc2
  clear hc1 hc2
  cases hb : bigN hs with
  | true =>
    rw [bigZ_yes hb]
    go_wp2_with fail
    go_ret
    exact ⟨rfl, hc3.below⟩
  | false =>
    rw [bigZ_no hb]
    have HC := Lib.hid (show countTo hs n ≤ 1200 by rw [← HN.out]; exact (bigN_count hb).2)
    clear hb
    have hcm : Ch nob w (w2.alloc (.map #[] 0)) := hc3.alloc _
    have hm0 : Hid (IMap Try.prog 3 (w2.alloc (.map #[] 0)) w2.heap.size 0 (cntF fun u => tmT hs u 0)) := Lib.hid (IMap.made Try.prog 3 w2)
    obtain ⟨gm, hgm⟩ : ∃ gm, w2.heap.size = gm := ⟨_, rfl⟩
    have hgw : w.heap.size ≤ gm := by rw [← hgm]; exact hc3.size
    have hz0 : gm + 1 ≤ (w2.alloc (.map #[] 0)).heap.size := by rw [← hgm]; simp
    clear hc3
    go_wp2_with fail
    rw [hgm] at hm0
    obtain ⟨w3, hw3⟩ : ∃ w3, w2.alloc (.map #[] 0) = w3 := ⟨_, rfl⟩
    rw [hw3] at hm0 hz0 hcm ⊢
    clear hw3 hgm
    go_loopw [19, 3] (fun x y wr => ∃ (i c : Nat) (tw : Bool), x = .int .i64 i ∧ y = .bool tw ∧ i ≤ n ∧ Hid (c ≤ countTo hs i) ∧ Hid (Twice (fun u => tmT hs u i) tw) ∧ Hid (IMap Try.prog 3 wr gm c (cntF fun u => tmT hs u i)) ∧ gm + 1 ≤ wr.heap.size ∧ Ch nob w wr) (fun x _ _ => n - (intOf x).toNat)
    case atStart => exact ⟨0, 0, false, rfl, rfl, Nat.zero_le _, Lib.hid (Nat.zero_le _), Lib.hid ⟨fun h => (by cases h), fun _ v => Nat.zero_le _⟩, hm0, hz0, hcm⟩
    case round =>
      clear hm0 hz0 hcm hmm
      obtain ⟨i, c, tw, rfl, rfl, hi, hcc, htw, hm, hz, hc⟩ := hrel
      by_cases hlt : i < n
      · have hd : decide ((i : Int) < (n : Int)) = true := decide_eq_true (by omega)
        obtain ⟨ad, u, rfl, hx0, hx1, hx2, hx3, hu⟩ := HV.out.both hc i (by rw [HN.out]; exact hlt)
        have hok := (HK.out i (by rw [HN.out]; exact hlt)).1
        have hle := countTo_mono hs (show i + 1 ≤ n by omega)
        have hcs : countTo hs (i + 1) = countTo hs i + (hs.getD i txrZero).ops.length := rfl
        have htt : ∀ u, tmT hs u (i + 1) = tmT hs u i + tmN (hs.getD i txrZero).ops u (hs.getD i txrZero).ops.length := fun u => rfl
        obtain ⟨T, hT⟩ : ∃ T, hs.getD i txrZero = T := ⟨_, rfl⟩
        rw [hT] at hx0 hx1 hx2 hu hok hcs
        have htt2 : ∀ u, tmT hs u (i + 1) = tmT hs u i + tmN T.ops u T.ops.length := fun u => by rw [htt, hT]
        obtain ⟨ts, tb, tc, xs⟩ := T
        dsimp only at hx0 hx1 hx2 hu hok hcs htt2
        obtain ⟨A2, c2, rfl⟩ := hu.shape
        obtain ⟨l, hl⟩ : ∃ l, xs.length = l := ⟨_, rfl⟩
        rw [hl] at hx3 hu hcs htt2
        have hb1 : Hid (countTo hs i + l ≤ 1200) := Lib.hid (by have := HC.out; omega)
        have hll : l ≤ 1200 := by have := HC.out; omega
        have HTT := Lib.hid htt2
        have HCS := Lib.hid hcs
        have HL := Lib.hid hl
        have HU := Lib.hid hu
        have HO := Lib.hid hok
        have hcA : Ch nob wr (wr.alloc (.cells #[.int .i64 ts, .int .i64 tb, .int .i64 tc, .slice A2 l c2] 33)) := (Ch.refl _ _).alloc _
        have hm2 := Lib.hid (hm.out.keep hcA)
        have hc2 := hc.seq hcA
        have HB := Lib.hid (Blk.new wr #[.int .i64 ts, .int .i64 tb, .int .i64 tc, .slice A2 l c2] 33)
        clear hT hu hl hok hle hcs htt htt2 hm hc
        go_wp2_with fail
        refine (may_law05 _ _ xs ?hopl).mono ?_
        case hopl => exact HU.out.keep hc2
        rintro e w4 ⟨rfl, hc4⟩
        have hm4 := Lib.hid (hm2.out.keep hc4)
        have hb4 := Lib.hid (HB.out.ch hc4 (fun h => h))
        have hc5 := hc2.seq hc4
        have hz4 : gm + 1 ≤ w4.heap.size := by have := hc4.size; have : wr.heap.size ≤ (wr.alloc (.cells #[.int .i64 ts, .int .i64 tb, .int .i64 tc, .slice A2 l c2] 33)).heap.size := by simp
                                               omega
        have hgt : gm + 1 ≤ wr.heap.size := hz
        clear hm2 HB hc2 hx0 hx1 hx2 hx3 hc4
        cases hmy : mayL xs with
        | false =>
          rw [← mayN_no hmy]
          clear hmy
          go_wp2_with fail
          go_ret
          exact ⟨rfl, hc5.below⟩
        | true =>
          rw [← mayN_yes hmy]
          clear hmy
          have hp3 := hb4.out.cell (i := 3) (v := .slice A2 l c2) rfl
          have HTW0 := Lib.hid (show Twice (fun u => tmT hs u i + tmN xs u 0) tw from htw.out)
          go_wp2_with fail
          go_loopw [30, 3] (fun x y wr => ∃ (j c : Nat) (tw : Bool), x = .int .i64 j ∧ y = .bool tw ∧ j ≤ l ∧ Hid (c ≤ countTo hs i + j) ∧ Hid (Twice (fun u => tmT hs u i + tmN xs u j) tw) ∧ Hid (IMap Try.prog 3 wr gm c (cntF fun u => tmT hs u i + tmN xs u j)) ∧ gm + 1 ≤ wr.heap.size ∧ Ch nob w wr) (fun x _ _ => l - (intOf x).toNat)
          case atStart => exact ⟨0, c, tw, rfl, rfl, Nat.zero_le _, hcc, HTW0, hm4, hz4, hc5⟩
          case round =>
            clear hm4 hc5 HTW0 hp3 hb4 hz4 hcc htw hz
            obtain ⟨j, c, tw, rfl, rfl, hj, hcc, htw, hm, hz, hc⟩ := hrel
            by_cases hlt2 : j < l
            · have hd2 : decide ((j : Int) < (l : Int)) = true := decide_eq_true (by omega)
              obtain ⟨ad2, rfl, hy0, hy1, hy2⟩ := (HU.out.keep hc).at.2.2 j (by rw [HL.out]; exact hlt2)
              have hwf := HO.out.2 j (by rw [HL.out]; exact hlt2)
              obtain ⟨x, hx⟩ : ∃ x, xs.getD j opZero = x := ⟨_, rfl⟩
              rw [hx] at hy0 hy1 hy2 hwf
              have HX := Lib.hid hx
              obtain ⟨xw, xk, xv⟩ := x
              have hcB : Ch nob wr (wr.alloc (.cells #[.bool xw, .int .i64 xk, .int .i64 xv] 35)) := (Ch.refl _ _).alloc _
              have hm1 := hm.out.keep hcB
              have hc6 := hc.seq hcB
              clear hx hcB hm hc
              cases xw with
              | false =>
                have hfe := cnt_read hs i xs j _ HX.out rfl
                have hm3 := Lib.hid (show IMap Try.prog 3 (wr.alloc (.cells #[.bool false, .int .i64 xk, .int .i64 xv] 35)) gm c (cntF fun u => tmT hs u i + tmN xs u (j + 1)) from by rw [← hfe]; exact hm1)
                have htw2 := Lib.hid (show Twice (fun u => tmT hs u i + tmN xs u (j + 1)) tw from by rw [← hfe]; exact htw.out)
                have hcc2 := Lib.hid (show c ≤ countTo hs i + (j + 1) from by have := hcc.out; omega)
                have hz1 : gm + 1 ≤ (wr.alloc (.cells #[.bool false, .int .i64 xk, .int .i64 xv] 35)).heap.size := by simp; omega
                clear hm1 hfe
                go_wp2_with fail
                go_roundw
                case rel => exact ⟨j + 1, c, tw, by go_num, rfl, by omega, hcc2, htw2, hm3, hz1, hc6⟩
                case measure => simp [intOf]; omega
              | true =>
                have hfe := cnt_step hs i xs j _ HX.out rfl
                obtain ⟨F, hF⟩ : ∃ F : Int → Nat, (fun u => tmT hs u i + tmN xs u j) = F := ⟨_, rfl⟩
                have hFx : ∀ u, tmT hs u i + tmN xs u j = F u := fun u => congrFun hF u
                rw [hF] at hm1 htw
                have hfe2 : (fun u => F u + if u = xv then 1 else 0) = fun u => tmT hs u i + tmN xs u (j + 1) := by rw [← hfe]; funext u; rw [← hFx]
                have HFE := Lib.hid hfe2
                obtain ⟨q, hq⟩ : ∃ q, F xv = q := ⟨_, rfl⟩
                have hq2 : q ≤ 1200 := by
                  have h1 := hFx xv
                  have h2 := tmT_le hs xv i
                  have h3 := tmN_le xs xv j
                  have := hb1.out
                  omega
                have hg1 := cntF_get F xv
                have hput := cntF_put F xv
                rw [hq] at hg1 hput
                have HPUT := Lib.hid hput
                have HG1 := Lib.hid hg1
                have hg2 : (cntF (fun u => tmT hs u i + tmN xs u (j + 1)) xv).getD (.int .i64 0) = .int .i64 ((q : Int) + 1) := by
                  rw [← HFE.out, cntF_get, if_pos rfl, hq]; rfl
                have HG2 := Lib.hid hg2
                have hcl : c < maxLen := by have := hcc.out; have := hb1.out; unfold maxLen; omega
                have hpe : (((q + 1 : Nat)) : Int) = (q : Int) + 1 := by omega
                have HPE := Lib.hid hpe
                have hcc2 : (if (cntF F xv).isSome then c else c + 1) ≤ countTo hs i + (j + 1) := by have := hcc.out; split <;> omega
                have HCC := Lib.hid hcc2
                obtain ⟨c9, hc9⟩ : ∃ c9, (if (cntF F xv).isSome then c else c + 1) = c9 := ⟨_, rfl⟩
                have HC9 := Lib.hid hc9
                have hng : gm ≠ wr.heap.size := by omega
                have hTt : tw = true → Hid (Twice (fun u => tmT hs u i + tmN xs u (j + 1)) true) := fun h => Lib.hid (by
                  rw [h] at htw
                  rw [← HFE.out]
                  exact htw.out.le (fun v => by omega))
                have hTf : tw = false → Hid (Twice (fun u => tmT hs u i + tmN xs u (j + 1)) (decide ((1 : Int) < (q : Int) + 1))) := fun h => Lib.hid (by
                  rw [h] at htw
                  rw [← HFE.out]
                  refine ⟨fun h1 => ⟨xv, ?_⟩, fun h1 v => ?_⟩
                  · have := of_decide_eq_true h1
                    show 2 ≤ F xv + if xv = xv then 1 else 0
                    rw [if_pos rfl, hq]; omega
                  · have := of_decide_eq_false h1
                    have h2 := htw.out.2 rfl v
                    show F v + (if v = xv then 1 else 0) ≤ 1
                    split
                    · rename_i e; rw [e, hq]; omega
                    · omega)
                have HTT2 := Lib.hid (And.intro hTt hTf)
                clear hfe hF hFx hfe2 hq hg1 hput hg2 hpe hcc2 hc9 hTt hTf htw
                cases tw with
                | true =>
                  have HT := HTT2.out.1 rfl
                  go_wp2_with (first
                    | (at_lookup; refine wpList_imap_get _ rfl _ _ 39 rfl 3 3 under_int under_mii _ (zero_i _) _ _ _ rfl hm1 _ rfl hwf ?_; rw [HG1.out])
                    | (at_mapUpdate; refine wpList_imap_put _ rfl _ _ _ 39 rfl 3 3 under_int under_mii _ _ _ rfl hm1 hcl _ rfl hwf (.int .i64 ((q : Int) + 1)) rfl ?_; intro w7 hm7 hc7; rw [HC9.out, ← HPE.out, HPUT.out, HFE.out] at hm7))
                  have hw7 := hc7.size
                  simp at hw7
                  exact ⟨⟨j + 1, c9, true, by go_num, rfl, by omega, Lib.hid (by rw [← HC9.out]; exact HCC.out), HT, Lib.hid hm7, by omega, hc6.fresh hc7 hgw⟩, by simp [intOf]; omega⟩
                | false =>
                  have HT := HTT2.out.2 rfl
                  have hcx : ∀ w7, Ch (· = gm) (wr.alloc (.cells #[.bool true, .int .i64 xk, .int .i64 xv] 35)) w7 → w7.cell? ⟨wr.heap.size, 2, none⟩ = some (.int .i64 xv) := fun w7 h => ((Blk.new wr #[.bool true, .int .i64 xk, .int .i64 xv] 35).ch h (fun h => hng h.symm)).cell (i := 2) rfl
                  go_wp2_with (first
                    | (at_lookup; refine wpList_imap_get _ rfl _ _ 39 rfl 3 3 under_int under_mii _ (zero_i _) _ _ _ rfl hm1 _ rfl hwf ?_; rw [HG1.out])
                    | (at_mapUpdate; refine wpList_imap_put _ rfl _ _ _ 39 rfl 3 3 under_int under_mii _ _ _ rfl hm1 hcl _ rfl hwf (.int .i64 ((q : Int) + 1)) rfl ?_; intro w7 hm7 hc7; rw [HC9.out, ← HPE.out, HPUT.out, HFE.out] at hm7)
                    | (at_lookup; have hc8 := hcx _ hc7; refine wpList_imap_getG _ rfl _ _ 39 rfl 3 3 under_int under_mii _ (zero_i _) _ _ _ rfl hm7 _ rfl hwf ?_; rw [HG2.out]))
                  have hw7 := hc7.size
                  simp at hw7
                  exact ⟨⟨j + 1, c9, _, by go_num, rfl, by omega, Lib.hid (by rw [← HC9.out]; exact HCC.out), HT, Lib.hid hm7, by omega, hc6.fresh hc7 hgw⟩, by simp [intOf]; omega⟩
            · have hd2 : decide ((j : Int) < (l : Int)) = false := decide_eq_false (by omega)
              obtain rfl : l = j := by omega
              have hfe : (fun u => tmT hs u i + tmN xs u l) = fun u => tmT hs u (i + 1) := by funext u; rw [HTT.out]
              rw [hfe] at hm htw
              have hcc2 : Hid (c ≤ countTo hs (i + 1)) := Lib.hid (by rw [HCS.out]; exact hcc.out)
              go_wp2_with fail
              go_roundw
              case rel => exact ⟨i + 1, c, tw, by go_num, rfl, by omega, hcc2, htw, hm, hz, hc⟩
              case measure => simp [intOf]; omega
      · have hd : decide ((i : Int) < (n : Int)) = false := decide_eq_false (by omega)
        obtain rfl : n = i := by omega
        have hq : (histF hs hs.length).isSome = !tw := Twice.hist (by have := htw.out; rw [← HN.out] at this; exact this)
        have HW := Lib.hid (writes_ok wr (.slice A n cp) hs (HV.out.keep hc) HK.out (by rw [HN.out]; have := HC.out; omega) (!tw) hq)
        clear hq
        have hbb : ((!tw) == (!tw)) = true := beq_self_eq_true _
        go_wp2_with fail
        refine HW.out.mono ?_
        rintro e w7 ⟨⟨b, rfl⟩, hc7⟩
        have hc8 := hc.seq hc7
        go_wp2_with fail
        go_ret
        exact ⟨rfl, hc8.below⟩
end Go.Proofs.Ytobfanodjdkkoaa
