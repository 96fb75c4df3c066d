/- Are two histories one (history.Same)? No condition but each theorem's own. -/
import Derived.Test.YtobfanodjdkkoaaHistCp
set_option linter.unusedVariables false
set_option linter.unusedSimpArgs false
namespace Go.Proofs.Ytobfanodjdkkoaa
open Go.RowKit Go.Maps

theorem list_ext {α : Type} {d : α} {a b : List α} (h : a.length = b.length) (h2 : ∀ i, i < a.length → a.getD i d = b.getD i d) : a = b := by
  apply List.ext_getElem h
  intro i h3 h4
  have := h2 i h3
  rw [List.getD_eq_getElem?_getD, List.getD_eq_getElem?_getD, List.getElem?_eq_getElem h3, List.getElem?_eq_getElem h4] at this
  exact this
theorem txr_ext {a b : Txr} (h0 : a.ses = b.ses) (h1 : a.beg = b.beg) (h2 : a.com = b.com) (h3 : a.ops = b.ops) : a = b := by
  obtain ⟨_, _, _, _⟩ := a; obtain ⟨_, _, _, _⟩ := b
  simp at h0 h1 h2 h3
  rw [h0, h1, h2, h3]
/-- What Same hands back. -/
def RetSame (w : World) (a b : List Txr) (e : Ending) (w' : World) : Prop := ∃ q : Bool, e = .returned (.bool q) ∧ (q = true ↔ a = b) ∧ Ch nob w w'
theorem RetSame.no {w w' : World} {a b : List Txr} (h : a ≠ b) (hc : Ch nob w w') : RetSame w a b (.returned (.bool false)) w' := ⟨false, rfl, ⟨fun h => (by cases h), fun e => absurd e h⟩, hc⟩
theorem RetSame.yes {w w' : World} {a b : List Txr} (h : a = b) (hc : Ch nob w w') : RetSame w a b (.returned (.bool true)) w' := ⟨true, rfl, ⟨fun _ => h, fun _ => rfl⟩, hc⟩
set_option maxRecDepth 100000 in
set_option maxHeartbeats 8000000 in
theorem same_history (w : World) (v u : Value) (a b : List Txr) (hv : Txns w v a) (hu : Txns w u b) : Calls Try.prog 21 #[v, u] w (RetSame w a b) := by
  obtain ⟨A, cp, rfl⟩ := hv.shape
  obtain ⟨B, cq, rfl⟩ := hu.shape
  have HV := Lib.hid hv
  have HU := Lib.hid hu
  obtain ⟨_, ⟨_, hlen⟩, _⟩ := hv.at
  obtain ⟨n, hn⟩ : ∃ n, a.length = n := ⟨_, rfl⟩
  obtain ⟨m, hm⟩ : ∃ m, b.length = m := ⟨_, rfl⟩
  have HN := Lib.hid hn
  have HM := Lib.hid hm
  rw [hn] at HV hlen
  rw [hm] at HU
  rw [hn, hm]
  clear hv hu hn hm
  by_cases hnm : n = m
  · subst hnm
    have dnm : ((n : Int) != (n : Int)) = false := by simp
    go_enter Try.func21, Try.ntmps21
    go_wp2_with fail
    go_loopw [17] (fun x wr => ∃ i : Nat, x = .int .i64 i ∧ i ≤ n ∧ Hid (∀ j, j < i → a.getD j txrZero = b.getD j txrZero) ∧ Ch nob w wr) (fun x _ => n - (intOf x).toNat)
    case atStart => exact ⟨0, rfl, Nat.zero_le _, Lib.hid (fun j hj => by omega), Ch.refl _ _⟩
    case round =>
      obtain ⟨i, rfl, hi, hst, hc⟩ := hrel
      by_cases hlt : i < n
      · have hd : decide ((i : Int) < (n : Int)) = true := decide_eq_true (by omega)
        obtain ⟨ad, u1, rfl, hx0, hx1, hx2, hx3, hu1⟩ := HV.out.both hc i (by rw [HN.out]; exact hlt)
        obtain ⟨T, hT⟩ : ∃ T, a.getD i txrZero = T := ⟨_, rfl⟩
        rw [hT] at hx0 hx1 hx2 hu1
        obtain ⟨ts, tb, tc, xs⟩ := T
        dsimp only at hx0 hx1 hx2 hu1
        obtain ⟨A2, c2, rfl⟩ := hu1.shape
        have hll := hu1.at.2.1.2
        obtain ⟨l, hl⟩ : ∃ l, xs.length = l := ⟨_, rfl⟩
        rw [hl] at hx3 hu1 hll
        obtain ⟨bd, u2, rfl, hy0, hy1, hy2, hy3, hu2⟩ := HU.out.both (hc.alloc (.cells #[.int .i64 ts, .int .i64 tb, .int .i64 tc, .slice A2 l c2] 33)) i (by rw [HM.out]; exact hlt)
        obtain ⟨S, hS⟩ : ∃ S, b.getD i txrZero = S := ⟨_, rfl⟩
        rw [hS] at hy0 hy1 hy2 hu2
        obtain ⟨ss, sb, sc, ys⟩ := S
        dsimp only at hy0 hy1 hy2 hu2
        obtain ⟨B2, d2, rfl⟩ := hu2.shape
        obtain ⟨k, hk⟩ : ∃ k, ys.length = k := ⟨_, rfl⟩
        rw [hk] at hy3 hu2
        have hc3 : Ch nob w ((wr.alloc (.cells #[.int .i64 ts, .int .i64 tb, .int .i64 tc, .slice A2 l c2] 33)).alloc (.cells #[.int .i64 ss, .int .i64 sb, .int .i64 sc, .slice B2 k d2] 33)) := (hc.alloc _).alloc _
        have hne : (⟨ts, tb, tc, xs⟩ : Txr) ≠ ⟨ss, sb, sc, ys⟩ → Hid (a ≠ b) := fun h => Lib.hid (fun e => h (by rw [← hT, ← hS, e]))
        have HNE := Lib.hid hne
        have HX := Lib.hid hT
        have HY := Lib.hid hS
        have HL := Lib.hid hl
        have HK := Lib.hid hk
        have HU1 := Lib.hid hu1
        have HU2 := Lib.hid hu2
        clear hT hS hne hl hk hu1 hu2 hc
        cases h1 : (ts != ss) with
        | true =>
          have HF := HNE.out (fun e => by cases e; simp at h1)
          go_wp2_with fail
          go_ret
          exact RetSame.no HF.out hc3
        | false =>
          have e1 : ts = ss := by simpa using h1
          have E1 := Lib.hid e1
          clear e1
          cases h2 : (tb != sb) with
          | true =>
            have HF := HNE.out (fun e => by cases e; simp at h2)
            go_wp2_with fail
            go_ret
            exact RetSame.no HF.out hc3
          | false =>
            have e2 : tb = sb := by simpa using h2
            have E2 := Lib.hid e2
            clear e2
            cases h3 : (tc != sc) with
            | true =>
              have HF := HNE.out (fun e => by cases e; simp at h3)
              go_wp2_with fail
              go_ret
              exact RetSame.no HF.out hc3
            | false =>
              have e3 : tc = sc := by simpa using h3
              have E3 := Lib.hid e3
              clear e3
              cases h4 : ((l : Int) != (k : Int)) with
              | true =>
                have HF := HNE.out (fun e => by
                  cases e
                  have e4 : l = k := by rw [← HL.out, ← HK.out]
                  rw [e4] at h4
                  simp at h4)
                go_wp2_with fail
                go_ret
                exact RetSame.no HF.out hc3
              | false =>
                have e4 : l = k := by have : (l : Int) = k := by simpa using h4
                                      omega
                subst e4
                have hb1 := ((Blk.new wr #[.int .i64 ts, .int .i64 tb, .int .i64 tc, .slice A2 l c2] 33).alloc (.cells #[.int .i64 ss, .int .i64 sb, .int .i64 sc, .slice B2 l d2] 33))
                have hb2 := Blk.new (wr.alloc (.cells #[.int .i64 ts, .int .i64 tb, .int .i64 tc, .slice A2 l c2] 33)) #[.int .i64 ss, .int .i64 sb, .int .i64 sc, .slice B2 l d2] 33
                go_wp2_with fail
                obtain ⟨wo, hwo⟩ : ∃ wo, (wr.alloc (.cells #[.int .i64 ts, .int .i64 tb, .int .i64 tc, .slice A2 l c2] 33)).alloc (.cells #[.int .i64 ss, .int .i64 sb, .int .i64 sc, .slice B2 l d2] 33) = wo := ⟨_, rfl⟩
                obtain ⟨g2, hg2⟩ : ∃ g, wr.heap.size + 1 = g := ⟨_, rfl⟩
                have hb2' : Blk wo g2 #[.int .i64 ss, .int .i64 sb, .int .i64 sc, .slice B2 l d2] 33 := by rw [← hwo, ← hg2]; simpa using hb2
                have HB2 := Lib.hid hb2'
                rw [hwo] at hc3 ⊢
                rw [hg2]
                clear hwo hg2 hb1 hb2 hb2' hx0 hx1 hx2 hx3 hy0 hy1 hy2 hy3
                go_loopw [57] (fun x wr => ∃ j : Nat, x = .int .i64 j ∧ j ≤ l ∧ Hid (∀ q, q < j → xs.getD q opZero = ys.getD q opZero) ∧ Hid (Blk wr g2 #[.int .i64 ss, .int .i64 sb, .int .i64 sc, .slice B2 l d2] 33) ∧ Ch nob w wr) (fun x _ => l - (intOf x).toNat)
                case atStart => exact ⟨0, rfl, Nat.zero_le _, Lib.hid (fun j hj => by omega), HB2, hc3⟩
                case round =>
                  clear HB2 hc3
                  obtain ⟨j, rfl, hj, hst2, hb, hc⟩ := hrel
                  by_cases hlt2 : j < l
                  · have hd2 : decide ((j : Int) < (l : Int)) = true := decide_eq_true (by omega)
                    obtain ⟨ad2, rfl, hx0, hx1, hx2⟩ := (HU1.out.keep hc).at.2.2 j (by rw [HL.out]; exact hlt2)
                    obtain ⟨x, hx⟩ : ∃ x, xs.getD j opZero = x := ⟨_, rfl⟩
                    rw [hx] at hx0 hx1 hx2
                    obtain ⟨xw, xk, xv⟩ := x
                    have hcB : Ch nob wr (wr.alloc (.cells #[.bool xw, .int .i64 xk, .int .i64 xv] 35)) := (Ch.refl _ _).alloc _
                    have hc4 := hc.seq hcB
                    obtain ⟨bd2, rfl, hy0, hy1, hy2⟩ := (HU2.out.keep hc4).at.2.2 j (by rw [HK.out]; exact hlt2)
                    obtain ⟨y, hy⟩ : ∃ y, ys.getD j opZero = y := ⟨_, rfl⟩
                    rw [hy] at hy0 hy1 hy2
                    obtain ⟨yw, yk, yv⟩ := y
                    have hb4 := Lib.hid (hb.out.ch hcB (fun h => h))
                    have hp3 := hb4.out.cell (i := 3) (v := .slice (some bd2) l d2) rfl
                    have hnb := Blk.new wr #[.bool xw, .int .i64 xk, .int .i64 xv] 35
                    have hn0 := hnb.cell (i := 0) (v := .bool xw) rfl
                    have hn1 := hnb.cell (i := 1) (v := .int .i64 xk) rfl
                    have hn2 := hnb.cell (i := 2) (v := .int .i64 xv) rfl
                    have X0 := fun u : Ext _ => Ext.cell hp3 u
                    have X1 := fun u : Ext _ => Ext.cell hy0 u
                    have X2 := fun u : Ext _ => Ext.cell hy1 u
                    have X3 := fun u : Ext _ => Ext.cell hy2 u
                    have X4 := fun u : Ext _ => Ext.cell hn0 u
                    have X5 := fun u : Ext _ => Ext.cell hn1 u
                    have X6 := fun u : Ext _ => Ext.cell hn2 u
                    clear hnb
                    have HXX := Lib.hid hx
                    have HYY := Lib.hid hy
                    have hdif : (⟨xw, xk, xv⟩ : Opn) ≠ ⟨yw, yk, yv⟩ → Hid (a ≠ b) := fun h => HNE.out (fun e => h (by
                      have e2 : xs = ys := congrArg Txr.ops e
                      rw [← HXX.out, ← HYY.out, e2]))
                    have HDIF := Lib.hid hdif
                    clear hdif hx hy
                    cases h5 : (yw == xw) with
                    | false =>
                      have HF := HDIF.out (fun e => by cases e; simp at h5)
                      go_wp2_with fail
                      refine wp_region_ch (w0 := _) (by kernel_rfl) (by kernel_rfl) (Ch.refl _ _) ?_
                      repeat go_big_quiet_step (fail)
                      refine wpQuiet_nil ?_
                      rintro wq ⟨⟨_, hcq⟩, rfl⟩
                      have hc9 := hc4.seq hcq
                      have hb9 := Lib.hid (hb4.out.ch hcq (fun h => h))
                      clear X0 X1 X2 X3 X4 X5 X6 hp3 hn0 hn1 hn2 hb4 hcq hc4 hx0 hx1 hx2 hy0 hy1 hy2
                      go_wp2_with fail
                      go_ret
                      exact RetSame.no HF.out hc9
                    | true =>
                      cases h6 : (yk == xk) with
                      | false =>
                        have HF := HDIF.out (fun e => by cases e; simp at h6)
                        go_wp2_with fail
                        refine wp_region_ch (w0 := _) (by kernel_rfl) (by kernel_rfl) (Ch.refl _ _) ?_
                        repeat go_big_quiet_step (fail)
                        refine wpQuiet_nil ?_
                        rintro wq ⟨⟨_, hcq⟩, rfl⟩
                        have hc9 := hc4.seq hcq
                        have hb9 := Lib.hid (hb4.out.ch hcq (fun h => h))
                        clear X0 X1 X2 X3 X4 X5 X6 hp3 hn0 hn1 hn2 hb4 hcq hc4 hx0 hx1 hx2 hy0 hy1 hy2
                        go_wp2_with fail
                        go_ret
                        exact RetSame.no HF.out hc9
                      | true =>
                        cases h7 : (yv == xv) with
                        | false =>
                          have HF := HDIF.out (fun e => by cases e; simp at h7)
                          go_wp2_with fail
                          refine wp_region_ch (w0 := _) (by kernel_rfl) (by kernel_rfl) (Ch.refl _ _) ?_
                          repeat go_big_quiet_step (fail)
                          refine wpQuiet_nil ?_
                          rintro wq ⟨⟨_, hcq⟩, rfl⟩
                          have hc9 := hc4.seq hcq
                          have hb9 := Lib.hid (hb4.out.ch hcq (fun h => h))
                          clear X0 X1 X2 X3 X4 X5 X6 hp3 hn0 hn1 hn2 hb4 hcq hc4 hx0 hx1 hx2 hy0 hy1 hy2
                          go_wp2_with fail
                          go_ret
                          exact RetSame.no HF.out hc9
                        | true =>
                          have HT := Lib.hid (show ∀ q, q < j + 1 → xs.getD q opZero = ys.getD q opZero from fun q hq => by
                            by_cases e : q = j
                            · rw [e, HXX.out, HYY.out]
                              exact opn_ext (by simpa using h5 : yw = xw).symm (by simpa using h6 : yk = xk).symm (by simpa using h7 : yv = xv).symm
                            · exact hst2.out q (by omega))
                          go_wp2_with fail
                          refine wp_region_ch (w0 := _) (by kernel_rfl) (by kernel_rfl) (Ch.refl _ _) ?_
                          repeat go_big_quiet_step (fail)
                          refine wpQuiet_nil ?_
                          rintro wq ⟨⟨_, hcq⟩, rfl⟩
                          have hc9 := hc4.seq hcq
                          have hb9 := Lib.hid (hb4.out.ch hcq (fun h => h))
                          clear X0 X1 X2 X3 X4 X5 X6 hp3 hn0 hn1 hn2 hb4 hcq hc4 hx0 hx1 hx2 hy0 hy1 hy2
                          go_wp2_with fail
                          go_roundw
                          case rel => exact ⟨j + 1, by go_num, by omega, HT, hb9, hc9⟩
                          case measure => simp [intOf]; omega
                  · have hd2 : decide ((j : Int) < (l : Int)) = false := decide_eq_false (by omega)
                    have HT := Lib.hid (show ∀ q, q < i + 1 → a.getD q txrZero = b.getD q txrZero from fun q hq => by
                      by_cases e : q = i
                      · rw [e, HX.out, HY.out]
                        exact txr_ext E1.out E2.out E3.out (list_ext (by rw [HL.out, HK.out]) (fun r hr => hst2.out r (by have := HL.out; have hr' : r < xs.length := hr; omega)))
                      · exact hst.out q (by omega))
                    go_wp2_with fail
                    go_roundw
                    case rel => exact ⟨i + 1, by go_num, by omega, HT, hc⟩
                    case measure => simp [intOf]; omega
      · have hd : decide ((i : Int) < (n : Int)) = false := decide_eq_false (by omega)
        have HF := Lib.hid (show a = b from list_ext (by rw [HN.out, HM.out]) (fun r hr => hst.out r (by have := HN.out; omega)))
        go_wp2_with fail
        go_ret
        exact RetSame.yes HF.out hc
  · have dnm : ((n : Int) != (m : Int)) = true := by simp; omega
    have HF := Lib.hid (show a ≠ b from fun e => hnm (by rw [← HN.out, ← HM.out, e]))
    go_enter Try.func21, Try.ntmps21
    go_wp2_with fail
    go_ret
    exact RetSame.no HF.out (Ch.refl _ _)
end Go.Proofs.Ytobfanodjdkkoaa
