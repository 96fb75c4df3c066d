/- Who writes each value of a history, by the program (history.Writes). No condition but each theorem's own. -/
import Derived.Test.YtobfanodjdkkoaaHistP
set_option linter.unusedVariables false
set_option linter.unusedSimpArgs false
namespace Go.Proofs.Ytobfanodjdkkoaa
open Go.RowKit Go.Maps

theorem under_miw : Try.prog.underlying 28 = some (.map 3 37) := by kernel_rfl
theorem zero_w (w : World) : (zeroValue 37).run Try.prog w = .ok (.agg #[.int .i64 0, .int .i64 0, .bool false]) w := by kernel_rfl
/-- What Writes hands back: a map of a block of its own, and whether no value was there twice. -/
def RetWr (w : World) (hs : List Txr) (e : Ending) (w' : World) : Prop :=
  ((∃ b N, e = .returned (.tuple #[.map (some b), .bool true]) ∧ histF hs hs.length = some N ∧ IMap Try.prog 3 w' b (wrT hs hs.length) (wmF N)) ∨ (∃ b, e = .returned (.tuple #[.map (some b), .bool false]) ∧ histF hs hs.length = none)) ∧ Ch nob w w'
theorem getD_wr (M : WM) (k : Int) : ((wmF M) k).getD (wrVal wrZero) = wrVal ((M k).getD wrZero) := by
  unfold wmF; cases M k <;> rfl

set_option maxRecDepth 100000 in
set_option maxHeartbeats 4000000 in
theorem writes_history (w : World) (v : Value) (hs : List Txr) (hv : Txns w v hs) (hk : TxnsOk hs) (hn : countTo hs hs.length ≤ 1000000) : Calls Try.prog 17 #[v] w (RetWr w hs) := by
  obtain ⟨A, cp, rfl⟩ := hv.shape
  have HV := Lib.hid hv
  have HK := Lib.hid hk
  have hmm := @run_makeMap Try.prog
  obtain ⟨_, ⟨_, hlen⟩, _⟩ := hv.at
  obtain ⟨n, hn2⟩ : ∃ n, hs.length = n := ⟨_, rfl⟩
  have HN := Lib.hid hn2
  rw [hn2] at HV hlen hn
  have HC := Lib.hid hn
  rw [hn2]
  have hm0 : Hid (IMap Try.prog 3 (w.alloc (.map #[] 0)) w.heap.size (wrT hs 0) (wmF fun _ => none)) := Lib.hid (IMap.made Try.prog 3 w)
  have hc0 : Ch nob w (w.alloc (.map #[] 0)) := (Ch.refl _ _).alloc _
  have hz0 : w.heap.size + 1 ≤ (w.alloc (.map #[] 0)).heap.size := by simp
  clear hv hk hn2 hn
  go_enter Try.func17, Try.ntmps17
  go_wp2_with fail
  go_loopw [17] (fun x wr => ∃ (i : Nat) (M : WM), x = .int .i64 i ∧ i ≤ n ∧ Hid (histF hs i = some M) ∧ Hid (IMap Try.prog 3 wr w.heap.size (wrT hs i) (wmF M)) ∧ w.heap.size + 1 ≤ wr.heap.size ∧ Ch nob w wr) (fun x _ => n - (intOf x).toNat)
  case atStart => exact ⟨0, _, rfl, Nat.zero_le _, Lib.hid rfl, hm0, hz0, hc0⟩
  case round =>
    clear hm0 hc0 hmm hz0
    obtain ⟨i, M, rfl, hi, hM, hm, hz, hc⟩ := hrel
    by_cases hlt : i < n
    · have hd : decide ((i : Int) < (n : Int)) = true := decide_eq_true (by omega)
      obtain ⟨ad, u, rfl, hx0, hx1, hx2, hx3, hu⟩ := HV.out.both hc i (by rw [HN.out]; exact hlt)
      have hok := (HK.out i (by rw [HN.out]; exact hlt)).1
      have hle := countTo_mono hs (show i + 1 ≤ n by omega)
      have hcs : countTo hs (i + 1) = countTo hs i + (hs.getD i txrZero).ops.length := rfl
      have hws : wrT hs (i + 1) = wrT hs i + wrN (hs.getD i txrZero).ops (hs.getD i txrZero).ops.length := rfl
      have hwl := wrT_le hs i
      have HI := Lib.hid (show i < hs.length from by rw [HN.out]; exact hlt)
      obtain ⟨T, hT⟩ : ∃ T, hs.getD i txrZero = T := ⟨_, rfl⟩
      rw [hT] at hx0 hx1 hx2 hu hok hcs hws
      have HX := Lib.hid (show (hs.getD i txrZero).ops = T.ops from by rw [hT])
      obtain ⟨ts, tb, tc, xs⟩ := T
      obtain ⟨A2, c2, rfl⟩ := hu.shape
      obtain ⟨l, hl⟩ : ∃ l, xs.length = l := ⟨_, rfl⟩
      have HL := Lib.hid hl
      dsimp only at hx0 hx1 hx2 hu hok hcs hws HX
      have hb1 : wrT hs i + l ≤ 1000000 := by have := HC.out; omega
      have HU := Lib.hid hu
      have HO := Lib.hid hok
      rw [hl] at hx3 HU hws
      have HWS := Lib.hid hws
      have hb0 := Blk.new wr #[.int .i64 ts, .int .i64 tb, .int .i64 tc, .slice A2 l c2] 33
      have hcA : Ch nob wr (wr.alloc (.cells #[.int .i64 ts, .int .i64 tb, .int .i64 tc, .slice A2 l c2] 33)) := (Ch.refl _ _).alloc _
      have hm2 := Lib.hid (hm.out.keep hcA)
      have hc2 := hc.seq hcA
      have HB := Lib.hid hb0
      clear hT hu hok hle hcs hws hwl hl hm hc hb0 hcA
      go_wp2_with fail
      obtain ⟨gt, hgt⟩ : ∃ gt, wr.heap.size = gt := ⟨_, rfl⟩
      have hzt : w.heap.size + 1 ≤ gt := by omega
      obtain ⟨wo, hwo⟩ : ∃ wo, wr.alloc (.cells #[.int .i64 ts, .int .i64 tb, .int .i64 tc, .slice A2 l c2] 33) = wo := ⟨_, rfl⟩
      have hzo : gt + 1 ≤ wo.heap.size := by rw [← hwo, ← hgt]; simp
      rw [hwo] at hm2 hc2 HB ⊢
      rw [hgt] at HB ⊢
      clear hwo hgt hx0 hx1 hx2 hx3 hz
      go_loopw [25] (fun x wr => ∃ (j : Nat) (N : WM), x = .int .i64 j ∧ j ≤ l ∧ Hid (opsF i xs M j = some N) ∧ Hid (IMap Try.prog 3 wr w.heap.size (wrT hs i + wrN xs j) (wmF N)) ∧ gt + 1 ≤ wr.heap.size ∧ Hid (Blk wr gt #[.int .i64 ts, .int .i64 tb, .int .i64 tc, .slice A2 l c2] 33) ∧ Ch nob w wr) (fun x _ => l - (intOf x).toNat)
      case atStart => exact ⟨0, M, rfl, Nat.zero_le _, Lib.hid rfl, hm2, hzo, HB, hc2⟩
      case round =>
        clear hm2 hzo HB hc2
        obtain ⟨j, N, rfl, hj, hN, hm, hz, hb, hc⟩ := hrel
        by_cases hlt2 : j < l
        · have hd2 : decide ((j : Int) < (l : Int)) = true := decide_eq_true (by omega)
          obtain ⟨ad2, rfl, hx0, hx1, hx2⟩ := (HU.out.keep hc).at.2.2 j (by rw [HL.out]; exact hlt2)
          have hwf := HO.out.2 j (by rw [HL.out]; exact hlt2)
          have hwl := wrN_le xs j
          have hws : wrN xs (j + 1) = wrN xs j + if (xs.getD j opZero).wr then 1 else 0 := rfl
          obtain ⟨x, hx⟩ : ∃ x, xs.getD j opZero = x := ⟨_, rfl⟩
          rw [hx] at hx0 hx1 hx2 hwf hws
          have HX2 := Lib.hid hx
          have HW2 := Lib.hid hws
          obtain ⟨xw, xk, xv⟩ := x
          have hcB : Ch nob wr (wr.alloc (.cells #[.bool xw, .int .i64 xk, .int .i64 xv] 35)) := (Ch.refl _ _).alloc _
          have hm1 := hm.out.keep hcB
          have hb1 := Lib.hid (hb.out.ch hcB (fun h => h))
          have hc1 := hc.seq hcB
          clear hx hws hm hb hc hcB
          cases xw with
          | false =>
            have hN2 := Lib.hid (opsF_read hN.out HX2.out rfl)
            have hm3 : Hid (IMap Try.prog 3 (wr.alloc (.cells #[.bool false, .int .i64 xk, .int .i64 xv] 35)) w.heap.size (wrT hs i + wrN xs (j + 1)) (wmF N)) := Lib.hid (by rw [HW2.out]; exact hm1)
            have hz1 : gt + 1 ≤ (wr.alloc (.cells #[.bool false, .int .i64 xk, .int .i64 xv] 35)).heap.size := by simp; omega
            clear hm1
            go_wp2_with fail
            go_roundw
            case rel => exact ⟨j + 1, N, by go_num, by omega, hN2, hm3, hz1, hb1, hc1⟩
            case measure => simp [intOf]; omega
          | true =>
            cases hNx : N xv with
            | some y =>
              have hF : Hid (histF hs hs.length = none) := Lib.hid (histF_twice hM.out HX.out (by have := HL.out; omega) (opsF_twice hN.out HX2.out rfl hNx) HI.out)
              obtain ⟨yt, yk, yl⟩ := y
              have hlk : wmF N xv = some (.agg #[.int .i64 yt, .int .i64 yk, .bool yl]) := by unfold wmF; rw [hNx]; rfl
              clear hNx
              go_wp2_with (at_lookup; refine wpList_imap_look _ rfl _ _ 28 rfl 3 37 under_int under_miw _ (zero_w _) _ _ _ rfl hm1 _ rfl hwf ?_; rw [hlk]; simp only [Option.getD_some, Option.isSome_some])
              go_ret2
              exact ⟨.inr ⟨_, rfl, hF.out⟩, hc1.alloc _⟩
            | none =>
              have hN2 := Lib.hid (opsF_new hN.out HX2.out rfl hNx)
              have hwn : wrT hs i + wrN xs j + 1 = wrT hs i + wrN xs (j + 1) := by rw [HW2.out, if_pos rfl]; rfl
              have HWN := Lib.hid hwn
              have hlk : wmF N xv = none := by unfold wmF; rw [hNx]; rfl
              have hlt1 : wrT hs i + wrN xs j < 1000000 := by omega
              have hcW : Ch nob (wr.alloc (.cells #[.bool true, .int .i64 xk, .int .i64 xv] 35)) ((wr.alloc (.cells #[.bool true, .int .i64 xk, .int .i64 xv] 35)).alloc (.cells #[.int .i64 0, .int .i64 0, .bool false] 37)) := (Ch.refl _ _).alloc _
              have hm4 := hm1.keep hcW
              clear hNx hwn
              go_wp2_with (first
                | (at_lookup; refine wpList_imap_look _ rfl _ _ 28 rfl 3 37 under_int under_miw _ (zero_w _) _ _ _ rfl hm1 _ rfl hwf ?_; rw [hlk]; simp only [Option.getD_none, Option.isSome_none])
                | (at_mapUpdate; refine wpList_imap_put _ rfl _ _ _ 28 rfl 3 37 under_int under_miw _ _ _ rfl hm4 (by unfold maxLen; omega) _ rfl hwf (wrVal ⟨(i : Int), xk, false⟩) rfl ?_; intro w1 hm2 hc3))
              have hlk2 : (if (wmF N xv).isSome then wrT hs i + wrN xs j else wrT hs i + wrN xs j + 1) = wrT hs i + wrN xs (j + 1) := by rw [hlk]; exact HWN.out
              rw [hlk2, wmF_put] at hm2
              have hw4 := hc3.size
              simp at hw4
              exact ⟨⟨j + 1, _, by go_num, by omega, hN2, Lib.hid hm2, by omega, Lib.hid ((hb1.out.ch hcW (fun h => h)).ch hc3 (fun h => by have h' : gt = w.heap.size := h; omega)), (hc1.seq hcW).fresh hc3 (Nat.le_refl _)⟩, by simp [intOf]; omega⟩
        · have hd2 : decide ((j : Int) < (l : Int)) = false := decide_eq_false (by omega)
          obtain rfl : j = l := by omega
          have hp0 := hb.out.cell (i := 0) (v := .int .i64 ts) rfl
          have hp1 := hb.out.cell (i := 1) (v := .int .i64 tb) rfl
          have hp2 := hb.out.cell (i := 2) (v := .int .i64 tc) rfl
          have hp3 := hb.out.cell (i := 3) (v := .slice A2 j c2) rfl
          have HUw := Lib.hid (HU.out.keep hc)
          go_wp2_with (refine wpList_load_row rfl 33 (.tmp 6) rfl gt rfl 33 #[.int .i64 ts, .int .i64 tb, .int .i64 tc, .slice A2 j c2] (0, 0) _ hb.out rfl rfl (by kernel_rfl) ?_)
          refine (writes _ _ xs ts tb tc HUw.out HO.out.1 (by have := HL.out; omega)).mono ?_
          rintro e w1 ⟨v3, ys, rfl, ho3, -, hy3, hc3⟩
          obtain ⟨A3, c3, hv3⟩ := ho3.opl.shape
          obtain ⟨q, hq⟩ : ∃ q, ys.length = q := ⟨_, rfl⟩
          have hql : q ≤ 9223372036854775807 := by rw [← hq]; exact ho3.len
          have HQ := Lib.hid hq
          rw [hq] at hv3
          have hge := ho3.ge
          subst hv3
          have HGE := Lib.hid (show ∀ b, (Value.slice A3 q c3).ownBlock = some b → ys ≠ [] → ¬ b = w.heap.size from fun b hb _ e => by have := (hge b hb).1; omega)
          clear hge
          have HO3 := Lib.hid ho3.opl
          have HY := Lib.hid hy3
          have hm3 := hm.out.keep hc3
          have hms : Hid (IMap Try.prog 3 w1 w.heap.size (wrT hs i + wrN xs j) (wmF (markF N fun v => (ys.take 0).any fun o => v == o.val))) := Lib.hid (by
            rw [show (fun v => (ys.take 0).any fun o => v == o.val) = fun _ => false from rfl, markF_none]; exact hm3)
          have hb3 := Lib.hid (hb.out.ch hc3 (fun h => h))
          have hc4 := hc.seq hc3
          have hz3 : gt + 1 ≤ w1.heap.size := by have := hc3.size; omega
          have HNS := Lib.hid (fun (k : Nat) (hk : k < q) => (show ((wmF (markF N fun v => (ys.take k).any fun o => v == o.val)) (ys.getD k opZero).val).isSome = true from by
            have hmem : ys.getD k opZero ∈ ys := by
              rw [List.getD_eq_getElem?_getD, List.getElem?_eq_getElem (by rw [HQ.out]; exact hk)]; exact List.getElem_mem _
            obtain ⟨k2, h1, h2⟩ := lastW_in ((HY.out _).1 hmem)
            have h3 := lastW_mem (Nat.le_refl _) ((HY.out _).1 hmem)
            have h4 := opsF_has hN.out k2 (by have := HL.out; omega) (by rw [h2]; exact h3.2.1)
            rw [h2] at h4
            unfold wmF markF
            rw [Option.isSome_map]
            split
            · rfl
            · exact h4))
          have HVW := Lib.hid (fun (k : Nat) (hk : k < q) => (show (Lit.int .i64 (ys.getD k opZero).val).wf = true from by
            have hmem : ys.getD k opZero ∈ ys := by
              rw [List.getD_eq_getElem?_getD, List.getElem?_eq_getElem (by rw [HQ.out]; exact hk)]; exact List.getElem_mem _
            obtain ⟨k2, h1, h2⟩ := lastW_in ((HY.out _).1 hmem)
            have := HO.out.2 k2 h1
            rw [h2] at this
            exact this))
          have HFIN := Lib.hid (show histF hs (i + 1) = some (markF N fun v => ys.any fun o => v == o.val) from by
            rw [isLast_of HY.out]; exact histF_step hM.out HX.out (by rw [HL.out]; exact hN.out))
          clear ho3 hy3 hq hm3 hc3 hm hb hp0 hp1 hp2 hp3 hz hN hM HUw
          go_wp2_with fail
          go_loopw [52] (fun x wr => ∃ k : Nat, x = .int .i64 k ∧ k ≤ q ∧ Hid (IMap Try.prog 3 wr w.heap.size (wrT hs i + wrN xs j) (wmF (markF N fun v => (ys.take k).any fun o => v == o.val))) ∧ gt + 1 ≤ wr.heap.size ∧ Ch (· = w.heap.size) w1 wr) (fun x _ => q - (intOf x).toNat)
          case atStart => exact ⟨0, rfl, Nat.zero_le _, hms, hz3, Ch.refl _ _⟩
          case round =>
            clear hms hz3 hb3
            obtain ⟨k, rfl, hk, hm, hz, hcc⟩ := hrel
            by_cases hlt3 : k < q
            · have hd3 : decide ((k : Int) < (q : Int)) = true := decide_eq_true (by omega)
              obtain ⟨ad3, rfl, hy0, hy1, hy2⟩ := (HO3.out.ch hcc HGE.out).at.2.2 k (by rw [HQ.out]; exact hlt3)
              have hns := HNS.out k hlt3
              have hvw := HVW.out k hlt3
              have hmt := Lib.hid (mark_take N ys k (by rw [HQ.out]; exact hlt3) _ rfl)
              obtain ⟨y, hy⟩ : ∃ y, ys.getD k opZero = y := ⟨_, rfl⟩
              rw [hy] at hy0 hy1 hy2 hns hvw hmt
              obtain ⟨yw, yk, yv⟩ := y
              have hcB : Ch nob wr (wr.alloc (.cells #[.bool yw, .int .i64 yk, .int .i64 yv] 35)) := (Ch.refl _ _).alloc _
              have hm1 := hm.out.keep hcB
              have hc5 := hcc.seq hcB
              obtain ⟨Mk, hMk⟩ : ∃ Mk, (markF N fun v => (ys.take k).any fun o => v == o.val) = Mk := ⟨_, rfl⟩
              rw [hMk] at hm1 hns hmt
              have HM := Lib.hid hm
              clear hy hcB hm hMk
              obtain ⟨o, ho⟩ : ∃ o, Mk yv = some o := by
                unfold wmF at hns
                rw [Option.isSome_map] at hns
                exact Option.isSome_iff_exists.1 hns
              obtain ⟨ot, ok, ol⟩ := o
              have hlk : wmF Mk yv = some (.agg #[.int .i64 ot, .int .i64 ok, .bool ol]) := by unfold wmF; rw [ho]; rfl
              have hput : Hid (putM (wmF Mk) yv (wrVal ⟨ot, ok, true⟩) = wmF (markF N fun v => (ys.take (k + 1)).any fun o => v == o.val)) := Lib.hid (by
                rw [wmF_put, ← hmt.out, ho]; rfl)
              have hcW : Ch nob (wr.alloc (.cells #[.bool yw, .int .i64 yk, .int .i64 yv] 35)) ((wr.alloc (.cells #[.bool yw, .int .i64 yk, .int .i64 yv] 35)).alloc (.cells #[.int .i64 ot, .int .i64 ok, .bool true] 37)) := (Ch.refl _ _).alloc _
              have hm4 := hm1.keep hcW
              have hc6 := hc5.seq hcW
              have hlt4 : wrT hs i + wrN xs j < maxLen := by have := wrN_le xs j; unfold maxLen; omega
              have hif : (if (wmF Mk yv).isSome then wrT hs i + wrN xs j else wrT hs i + wrN xs j + 1) = wrT hs i + wrN xs j := by rw [hlk]; rfl
              have HIF := Lib.hid hif
              clear ho hmt hns hif
              go_wp2_with (first
                | (at_lookup; refine wpList_imap_get _ rfl _ _ 28 rfl 3 37 under_int under_miw _ (zero_w _) _ _ _ rfl hm1 _ rfl hvw ?_; rw [hlk]; simp only [Option.getD_some])
                | (at_mapUpdate; refine wpList_imap_put _ rfl _ _ _ 28 rfl 3 37 under_int under_miw _ _ _ rfl hm4 hlt4 _ rfl hvw (wrVal ⟨ot, ok, true⟩) rfl ?_; intro w7 hm7 hc7))
              rw [HIF.out, hput.out] at hm7
              have hw7 := hc7.size
              simp at hw7
              exact ⟨⟨k + 1, by go_num, by omega, Lib.hid hm7, by omega, hc6.trans hc7 (fun b hb e => e)⟩, by simp [intOf]; omega⟩
            · have hd3 : decide ((k : Int) < (q : Int)) = false := decide_eq_false (by omega)
              obtain rfl : k = q := by omega
              have hm9 : Hid (IMap Try.prog 3 wr w.heap.size (wrT hs (i + 1)) (wmF (markF N fun v => ys.any fun o => v == o.val))) := Lib.hid (by
                rw [HWS.out]
                have := hm.out
                rw [← HQ.out, List.take_length] at this
                exact this)
              have hc9 := hc4.fresh hcc (Nat.le_refl _)
              go_wp2_with fail
              go_roundw
              case rel => exact ⟨i + 1, _, by go_num, by omega, HFIN, hm9, by omega, hc9⟩
              case measure => simp [intOf]; omega
    · have hd : decide ((i : Int) < (n : Int)) = false := decide_eq_false (by omega)
      obtain rfl : i = n := by omega
      go_wp2_with fail
      go_ret2
      exact ⟨.inl ⟨_, _, rfl, by rw [HN.out]; exact hM.out, by rw [HN.out]; exact hm.out⟩, hc⟩
end Go.Proofs.Ytobfanodjdkkoaa
