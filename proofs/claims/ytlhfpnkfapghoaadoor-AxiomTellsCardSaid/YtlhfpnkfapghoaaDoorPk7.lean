/- Texts of this claim, merged: OrdR. -/
import Derived.Test.YtlhfpnkfapghoaaDoorPk4
import Derived.Test.YtlhfpnkfapghoaaDoorPk6
section
/- What a transaction reads of others, by the program (order.reads). No condition but each theorem's own. -/
set_option linter.unusedVariables false
set_option linter.unusedSimpArgs false
namespace Go.Proofs.YtlhfpnkfapghoaaDoor
open Go.RowKit Go.Maps

theorem elem_read : ElemOK Tryd.prog 144 145 (.agg #[.int .i64 0, .int .i64 0]) 2 16 := ⟨by kernel_rfl, by kernel_rfl⟩
/-- What 'reads' hands back, and what it has written. -/
def RdPost (w : World) (base go gm c n : Nat) (S T F : Nat → Nat) (f : Int → Option Nat) (A1 : Option Addr) (c1 : Nat) (A2 : Option Addr) (c2 : Nat) (KV : Nat → Value) (ks : Nat → List Int) (rs : Nat → List (Int × Int)) (snd sd : Bool) (e : Ending) (w' : World) : Prop :=
  e = .returned (.bool sd) ∧ (∃ RV, Ords w' base go gm c n S T F f A1 c1 A2 c2 KV RV ks rs snd) ∧ Ch (fun q => base ≤ q) w w'
set_option maxRecDepth 100000 in
set_option maxHeartbeats 8000000 in
theorem order_reads (w : World) (base go gm c n : Nat) (S T F : Nat → Nat) (f : Int → Option Nat) (A1 : Option Addr) (c1 : Nat) (A2 : Option Addr) (c2 : Nat) (KV RV : Nat → Value) (ks : Nat → List Int) (rs : Nat → List (Int × Int)) (snd : Bool)
    (ho : Ords w base go gm c n S T F f A1 c1 A2 c2 KV RV ks rs snd) (i : Nat) (hi : i < n) (hn64 : n ≤ 64) (u : Value) (xs : List Opn) (ts tb tc : Int) (hu : Opl w u xs) (hok : OpsOk xs) (hx64 : Keys64 xs) (hxl : xs.length ≤ 1000) (b cw : Nat) (M : WM) (hm : IMap Tryd.prog 3 w b cw (wmF M)) (hb : b < base) (hF : RelOK F) (hrs : rs i = []) (hbase : base ≤ w.heap.size) :
    Calls Tryd.prog 77 #[.pointer (some ⟨go, 0, none⟩), .agg #[.int .i64 ts, .int .i64 tb, .int .i64 tc, u], .int .i64 i, .map (some b)] w
      (RdPost w base go gm c n S T (frTo M i (readsR xs 64) F (readsR xs 64).length) f A1 c1 A2 c2 KV ks (addAt rs i (rdTo M i (readsR xs 64) (readsR xs 64).length)) snd (sdTo M i (readsR xs 64) (steadyB xs) (readsR xs 64).length)) := by
  obtain ⟨A, cp, rfl⟩ := hu.shape
  have HST := Lib.hid (fun (w' : World) (hc : Ch nob w w') => steady w' (.slice A xs.length cp) xs ts tb tc (hu.keep hc) hok.1 (by omega))
  have HRD := Lib.hid (fun (w' : World) (hc : Ch nob w w') => reads w' (.slice A xs.length cp) xs ts tb tc (hu.keep hc) hok.1 (by omega))
  have HOK := Lib.hid hok
  have HX64 := Lib.hid hx64
  obtain ⟨l, hl⟩ : ∃ l, xs.length = l := ⟨_, rfl⟩
  have HL := Lib.hid hl
  rw [hl] at HST HRD ⊢
  obtain ⟨sd0, hsd0⟩ : ∃ sd0, steadyB xs = sd0 := ⟨_, rfl⟩
  obtain ⟨yr, hyr⟩ : ∃ yr, readsR xs 64 = yr := ⟨_, rfl⟩
  have HYR := Lib.hid hyr
  have hc0 : Ch nob w (w.alloc (.cells #[.int .i64 ts, .int .i64 tb, .int .i64 tc, .slice A l cp] 118)) := (Ch.refl _ _).alloc _
  have hbx := Blk.new w #[.int .i64 ts, .int .i64 tb, .int .i64 tc, .slice A l cp] 118
  have HST2 := HST.out _ hc0
  rw [hsd0] at HST2 ⊢
  rw [hyr]
  have HST3 := Lib.hid HST2
  have HO := Lib.hid ho
  have HM := Lib.hid hm
  clear hu hok hx64 hl hsd0 hyr HST HST2 ho hm
  go_enter Tryd.func77, Tryd.ntmps77
  go_wp2_with fail
  refine HST3.out.mono ?_
  rintro e w1 ⟨rfl, hc1⟩
  have hb1 := hbx.ch hc1 (fun h => h)
  have hp0 := hb1.cell (i := 0) (v := .int .i64 ts) rfl
  have hp1 := hb1.cell (i := 1) (v := .int .i64 tb) rfl
  have hp2 := hb1.cell (i := 2) (v := .int .i64 tc) rfl
  have hp3 := hb1.cell (i := 3) (v := .slice A l cp) rfl
  have hcA := hc0.seq hc1
  clear hbx hc0 hc1 HST3
  go_wp2_with fail
  refine (HRD.out _ hcA).mono ?_
  rintro e w2 ⟨vy, ys, rfl, hoy, hsr, hc2⟩
  have hye : ys = yr := by
    rw [← HYR.out]
    exact reads_is HX64.out (by rw [HL.out]; exact hsr)
  subst hye
  have hmem := fun x => (hsr.2.2.1 x).trans (mem_readsTo xs x l)
  obtain ⟨Ay, cy, hvy⟩ := hoy.opl.shape
  obtain ⟨m, hm⟩ : ∃ m, ys.length = m := ⟨_, rfl⟩
  have hml : m ≤ 1000 := by have := hsr.1; have := readsTo_len xs l; have := HL.out; omega
  have HMM := Lib.hid hm
  rw [hm] at hvy ⊢
  subst hvy
  have HYK := Lib.hid (fun (j : Nat) (hj : j < m) => (show (Lit.int .i64 (ys.getD j opZero).val).wf = true from by
    have h1 : ys.getD j opZero ∈ ys := by
      rw [List.getD_eq_getElem?_getD, List.getElem?_eq_getElem (by rw [HMM.out]; exact hj)]; exact List.getElem_mem _
    obtain ⟨k2, h2, _, h4⟩ := (hmem _).1 h1
    have h3 := HOK.out.2 k2 (by rw [HL.out]; exact h2)
    rw [h4] at h3
    exact h3))
  have hcB := hcA.seq hc2
  have HO2 := Lib.hid (show Ords w2 base go gm c n S T (frTo M i ys F 0) f A1 c1 A2 c2 KV RV ks (addAt rs i (rdTo M i ys 0)) snd from by
    show Ords w2 base go gm c n S T F f A1 c1 A2 c2 KV RV ks (addAt rs i []) snd
    rw [addAt_nil]; exact HO.out.keep hcB)
  have HM2 := Lib.hid (HM.out.keep hcB)
  have HY2 := Lib.hid hoy
  have hcC : Ch (fun q => base ≤ q) w w2 := hcB.mono (fun _ _ h => h.elim)
  have hy0 : w1.heap.size ≥ base := by have := hcA.size; omega
  clear hoy hsr hmem hm hc2 hcA hcB hb1 hp0 hp1 hp2 hp3 HRD HO HM
  go_wp2_with fail
  go_loopw [19, 9] (fun x y wr => ∃ (j : Nat) (sd : Bool) (RV : Nat → Value), x = .int .i64 j ∧ y = .bool sd ∧ j ≤ m ∧ Hid (sd = sdTo M i ys sd0 j) ∧ Hid (Ords wr base go gm c n S T (frTo M i ys F j) f A1 c1 A2 c2 KV RV ks (addAt rs i (rdTo M i ys j)) snd) ∧ Hid (OwnO wr w1.heap.size 121 (.slice Ay m cy) ys) ∧ Hid (IMap Tryd.prog 3 wr b cw (wmF M)) ∧ Ch (fun q => base ≤ q) w wr) (fun x _ _ => m - (intOf x).toNat)
  case atStart => exact ⟨0, sd0, RV, rfl, rfl, Nat.zero_le _, Lib.hid rfl, HO2, HY2, HM2, hcC⟩
  case round =>
    clear HO2 HY2 HM2 hcC
    obtain ⟨j, sd, RV, rfl, rfl, hj, hsd, ho, hy, hm, hc⟩ := hrel
    by_cases hlt : j < m
    · have hd : decide ((j : Int) < (m : Int)) = true := decide_eq_true (by omega)
      obtain ⟨ady, rfl, hy0, hy1, hy2⟩ := hy.out.opl.at.2.2 j (by rw [HMM.out]; exact hlt)
      have hwf := HYK.out j hlt
      obtain ⟨x, hx⟩ : ∃ x, ys.getD j opZero = x := ⟨_, rfl⟩
      rw [hx] at hy0 hy1 hy2 hwf
      have HSD := Lib.hid (show sdTo M i ys sd0 (j + 1) = (sd && okOf M i x) from by rw [sdTo_step hx, ← hsd.out])
      have HX := Lib.hid hx
      obtain ⟨xw, xk, xv⟩ := x
      have hcO : Ch nob wr (wr.alloc (.cells #[.bool xw, .int .i64 xk, .int .i64 xv] 121)) := (Ch.refl _ _).alloc _
      have ho2 := Lib.hid (ho.out.keep hcO)
      have hy3 := Lib.hid (hy.out.keep hcO)
      have hm2 := Lib.hid (hm.out.keep hcO)
      have hc2 := hc.seq hcO
      have hnb := Blk.new wr #[.bool xw, .int .i64 xk, .int .i64 xv] 121
      obtain ⟨wq, hwq⟩ : ∃ wq, wr.alloc (.cells #[.bool xw, .int .i64 xk, .int .i64 xv] 121) = wq := ⟨_, rfl⟩
      obtain ⟨gt, hgt⟩ : ∃ gt, wr.heap.size = gt := ⟨_, rfl⟩
      rw [hwq] at ho2 hy3 hm2 hc2 hnb
      rw [hgt] at hnb
      have HNB := Lib.hid hnb
      have HWQ := Lib.hid hwq
      have HGT := Lib.hid hgt
      clear hx hcO ho hy hm hc hnb hwq hgt
      obtain ⟨fr, hfr⟩ : ∃ fr, fromOf M ⟨xw, xk, xv⟩ = fr := ⟨_, rfl⟩
      obtain ⟨ok, hok⟩ : ∃ ok, okOf M i ⟨xw, xk, xv⟩ = ok := ⟨_, rfl⟩
      have HFR := Lib.hid hfr
      have HOKX := Lib.hid hok
      rw [hok] at HSD
      clear hfr hok
      go_upto_if 25 with (fail)
      rw [HWQ.out, HGT.out]
      go_cut [9, 12] (fun s d wc => s = .bool (sd && ok) ∧ d = .int .i64 fr ∧ Ch nob wq wc)
      case first =>
        have hnv := HNB.out.cell (i := 2) (v := .int .i64 xv) rfl
        by_cases h0 : xv = 0
        · have hd0 : (xv != 0) = false := by simp [h0]
          have HF := Lib.hid (show fr = -1 from by rw [← HFR.out]; unfold fromOf; rw [if_pos h0])
          have HO1 := Lib.hid (show ok = true from by rw [← HOKX.out]; unfold okOf; simp [h0])
          clear h0
          rw [hd0]
          clear hd0
          go_wp2_with fail
          go_meet
          exact ⟨by rw [HO1.out, Bool.and_true], by rw [HF.out], Ch.refl _ _⟩
        · have hd0 : (xv != 0) = true := by simp [h0]
          obtain ⟨y, hy⟩ : ∃ y, (M xv).getD wrZero = y := ⟨_, rfl⟩
          obtain ⟨yt, yk, yl⟩ := y
          have HF := Lib.hid (show fr = yt from by rw [← HFR.out]; unfold fromOf; rw [if_neg h0]; show ((M xv).getD wrZero).txn = yt; rw [hy])
          have HO1 := Lib.hid (show ok = (yl && yt != (i : Int)) from by rw [← HOKX.out]; unfold okOf; show (xv == 0 || (((M xv).getD wrZero).last && ((M xv).getD wrZero).txn != (i : Int))) = _; rw [hy]; simp [h0])
          have HLK := Lib.hid (show (wmF M xv).getD (.agg #[.int .i64 0, .int .i64 0, .bool false]) = .agg #[.int .i64 yt, .int .i64 yk, .bool yl] from by
            have := getD_wr M xv
            rw [hy] at this
            exact this)
          have hmo := hm2.out
          have hcw : Ch nob wq (wq.alloc (.cells #[.int .i64 yt, .int .i64 yk, .bool yl] 163)) := (Ch.refl _ _).alloc _
          clear h0 hy
          rw [hd0]
          clear hd0
          cases sd with
          | false =>
            go_wp2_with (at_lookup; refine wpList_imap_get _ rfl _ _ 112 rfl 3 163 under_int under_miw _ (zero_w _) _ _ _ rfl hmo _ rfl hwf ?_; rw [HLK.out])
            go_meet
            exact ⟨rfl, by rw [HF.out], hcw⟩
          | true =>
            cases yl with
            | false =>
              go_wp2_with (at_lookup; refine wpList_imap_get _ rfl _ _ 112 rfl 3 163 under_int under_miw _ (zero_w _) _ _ _ rfl hmo _ rfl hwf ?_; rw [HLK.out])
              go_meet
              exact ⟨by rw [HO1.out]; rfl, by rw [HF.out], hcw⟩
            | true =>
              obtain ⟨q, hq⟩ : ∃ q, (yt != (i : Int)) = q := ⟨_, rfl⟩
              have HQ := Lib.hid hq
              cases q with
              | true =>
                go_wp2_with (at_lookup; refine wpList_imap_get _ rfl _ _ 112 rfl 3 163 under_int under_miw _ (zero_w _) _ _ _ rfl hmo _ rfl hwf ?_; rw [HLK.out])
                go_meet
                exact ⟨by rw [HO1.out, HQ.out]; rfl, by rw [HF.out], hcw⟩
              | false =>
                go_wp2_with (at_lookup; refine wpList_imap_get _ rfl _ _ 112 rfl 3 163 under_int under_miw _ (zero_w _) _ _ _ rfl hmo _ rfl hwf ?_; rw [HLK.out])
                go_meet
                exact ⟨by rw [HO1.out, HQ.out]; rfl, by rw [HF.out], hcw⟩
      case rest =>
        obtain ⟨rfl, rfl, hcw⟩ := hcut
        have ho3 := Lib.hid (ho2.out.keep hcw)
        have hy4 := Lib.hid (hy3.out.keep hcw)
        have hm3 := Lib.hid (hm2.out.keep hcw)
        have hnb3 := Lib.hid (HNB.out.ch hcw (fun h => h))
        have hc3 := hc2.seq hcw
        clear ho2 hy3 hm2 hc2 hcw
        by_cases hfi : fr = (i : Int)
        · have hne : (fr != (i : Int)) = false := by simp [hfi]
          have hrs2 := rdTo_skip HX.out (show fromOf M ⟨xw, xk, xv⟩ = (i : Int) from by rw [HFR.out]; exact hfi)
          have hfs2 := frTo_skip (F := F) HX.out (show fromOf M ⟨xw, xk, xv⟩ = (i : Int) from by rw [HFR.out]; exact hfi)
          have ho4 := Lib.hid (show Ords wc base go gm c n S T (frTo M i ys F (j + 1)) f A1 c1 A2 c2 KV RV ks (addAt rs i (rdTo M i ys (j + 1))) snd from by rw [← hrs2, ← hfs2]; exact ho3.out)
          have HSD2 := Lib.hid (HSD.out.symm)
          clear hfi hrs2 hfs2
          go_wp2_with fail
          go_roundw
          case rel => exact ⟨j + 1, sd && ok, RV, by go_num, rfl, by omega, HSD2, ho4, hy4, hm3, hc3⟩
          case measure => simp [intOf]; omega
        · have hne : (fr != (i : Int)) = true := by simp [hfi]
          have HRS2 := Lib.hid (rdTo_step HX.out (show fromOf M ⟨xw, xk, xv⟩ ≠ (i : Int) from by rw [HFR.out]; exact hfi))
          have HFS2 := Lib.hid (frTo_step (F := F) HX.out (show fromOf M ⟨xw, xk, xv⟩ ≠ (i : Int) from by rw [HFR.out]; exact hfi))
          rw [HFR.out] at HRS2 HFS2
          clear hfi
          obtain ⟨g, hA2⟩ : ∃ g, A2 = some ⟨g, 0, none⟩ := by
            rcases ho3.out.rrow.2 with ⟨_, h⟩ | ⟨g, cap, cur, h, _⟩
            · omega
            · simp only [Value.slice.injEq] at h
              exact ⟨g, h.1⟩
          have HKR := Lib.hid (show wc.ownsRow base 144 1 (.slice (some ⟨g, 0, none⟩) n c2) n ((List.range n).map RV) from by rw [← hA2]; exact ho3.out.rrow)
          obtain ⟨a1, ha1⟩ : ∃ a1 : Addr, a1 = ⟨g, 0, none⟩ := ⟨_, rfl⟩
          have HA2 := Lib.hid hA2
          have HAA := Lib.hid ha1
          have hk194 : wc.cell? ⟨go, 195, none⟩ = some (.slice (some a1) n c2) := by rw [ha1, ← hA2]; exact ord_reads ho3.out.blk
          have hkci : wc.cell? (a1.add i) = some (RV i) := by
            rw [ha1, own_add, World.ownsRow.cellAt HKR.out i (by omega), List.getElem?_map, List.getElem?_range hi]; rfl
          have HKV := Lib.hid (ho3.out.rv i hi)
          obtain ⟨Ak, ck, hkv⟩ := ownsRow_shape HKV.out
          obtain ⟨lk, hlk⟩ : ∃ lk, (addAt rs i (rdTo M i ys j) i).length = lk := ⟨_, rfl⟩
          have hlk64 : lk ≤ 1000 := by
            rw [← hlk]
            unfold addAt
            rw [if_pos rfl, hrs, List.nil_append]
            have := rdTo_len M i ys j
            omega
          rw [hlk] at hkv
          rw [hkv] at hkci
          have HLK := Lib.hid hlk
          have HKV2 := Lib.hid (show wc.ownsRow base 145 2 (.slice Ak lk ck) lk (flatR (addAt rs i (rdTo M i ys j) i)) from by
            have h := HKV.out
            unfold OwnR at h
            rw [HLK.out, hkv] at h
            exact h)
          have HKE := Lib.hid hkv
          have hkey := hnb3.out.cell (i := 1) (v := .int .i64 xk) rfl
          have hszc := Lib.hid (show base ≤ wc.heap.size from by have := (ho3.out.rrow.lt g (by rw [hA2]; rfl)); omega)
          have hz : Ch nob wc (wc.drew.alloc (.cells #[.int .i64 xk, .int .i64 fr] 145)) := ((Ch.refl nob wc).drew).alloc _
          have HKW := Lib.hid (row_keep HKV2.out hz)
          have HZ := Lib.hid hz
          have HST := Lib.hid (show ∀ w', (wc.drew.alloc (.cells #[.int .i64 xk, .int .i64 fr] 145)).grownBy w' (Value.slice Ak lk ck).ownBlock → w'.cell? (a1.add i) = some (.slice Ak lk ck) ∧ w'.frozen? (a1.add i) = false ∧ w'.cell? ⟨go, 195, none⟩ = some (.slice (some a1) n c2) from fun w' hg => by
            have hr := (row_keep HKR.out HZ.out).kept hg (.inr (fun e => row_row_ne HKR.out HKV2.out (by decide) g rfl e.symm))
            rw [HAA.out, own_add]
            have hob := ((ho3.out.blk.ch HZ.out (fun h => h)).grown hg (row_blk_ne HKV2.out ho3.out.blk (by decide)))
            refine ⟨?_, World.ownsRow.frozenAt hr i, ?_⟩
            · rw [World.ownsRow.cellAt hr i (by omega), List.getElem?_map, List.getElem?_range hi, ← HKE.out]; rfl
            · rw [← HA2.out]; exact ord_reads hob)
          clear hA2 ha1 hkv hlk hz
          have hal : ∀ p v, wc.cell? p = some v → (wc.alloc (.cells #[.int .i64 xk, .int .i64 fr] 145)).cell? p = some v := fun p v h =>
            (World.cell?_of_block (Below.heap_alloc wc _ _ (World.block_lt_of_cell? wc _ h))).trans h
          have hk194b := hal _ _ hk194
          have hkcib := hal _ _ hkci
          have hkeyb := hal _ _ hkey
          clear hal
          go_wp2_with fail
          apply leaf_of (fun Av cv w12 => w12.ownsRow base 145 2 (.slice Av (lk + 1) cv) (lk + 1) (flatR (addAt rs i (rdTo M i ys j) i) ++ [.int .i64 xk, .int .i64 fr]) ∧ (wc.drew.alloc (.cells #[.int .i64 xk, .int .i64 fr] 145)).grownBy w12 (Value.slice Ak lk ck).ownBlock ∧ ∀ b, (Value.slice Av (lk + 1) cv).ownBlock = some b → (Value.slice Ak lk ck).ownBlock = some b ∨ (wc.drew.alloc (.cells #[.int .i64 xk, .int .i64 fr] 145)).heap.size ≤ b)
            (fun Av cv w12 => w12.setCell (a1.add i) (.slice Av (lk + 1) cv))
          · intro LEAF
            go_region_law (first
              | ((refine step_append_sep (by rfl) (.tmp 57) (.tmp 62) 144 145 (by rfl) (.agg #[.int .i64 0, .int .i64 0]) 2 16 elem_read (by rfl) (by decide) (by decide) base _ lk _ (by rfl) HKW.out wc.heap.size #[.int .i64 xk, .int .i64 fr] 145 (by rfl) (Blk.new wc.drew _ _) (by rfl) (by intro u hu; simp at hu; rcases hu with rfl | rfl <;> rfl) (by omega) (by have := hszc.out; simp; omega) ?_; intro v12 w12 hown12 hg12 hnew12; obtain ⟨Av, cv, hv12⟩ := ownsRow_shape hown12; subst hv12; obtain ⟨hl12, hf12, hk12⟩ := HST.out w12 hg12)))
            all_goals exact LEAF Av cv w12 ⟨hown12, hg12, hnew12⟩
          · rintro Av cv w12 ⟨hR1, hR2, hR3⟩
            have hz := HZ.out
            have hadr : a1.add i = ⟨g, i, none⟩ := by rw [HAA.out, own_add]
            have hR2k : (wc.drew.alloc (.cells #[.int .i64 xk, .int .i64 fr] 145)).grownBy w12 (RV i).ownBlock := by rw [HKE.out]; exact hR2
            have hu : OwnR w12 base (.slice Av (lk + 1) cv) (addAt rs i (rdTo M i ys j) i ++ [(xk, fr)]) := by
              unfold OwnR
              rw [List.length_append, flatR_append, HLK.out]
              exact hR1
            have ho3g : Ords wc base go gm c n S T (frTo M i ys F j) f A1 c1 (some ⟨g, 0, none⟩) c2 KV RV ks (addAt rs i (rdTo M i ys j)) snd := by rw [← HA2.out]; exact ho3.out
            have HO7 := (ho3g.keep hz).rpush hi hR2k hu (fun q hq => by rw [HKE.out]; exact hR3 q hq) rfl
            rw [addAt_step, HRS2.out, ← HA2.out, ← hadr] at HO7
            have HO7h := Lib.hid HO7
            have hkr12 := (row_keep HKR.out hz).kept hR2 (.inr (fun e => row_row_ne HKR.out HKV2.out (by decide) g rfl e.symm))
            have hcs : Ch (· = g) w12 (w12.setCell (a1.add i) (.slice Av (lk + 1) cv)) := (Ch.refl _ _).setCell _ _ (fun _ => by rw [hadr])
            have hm12 := (hm3.out.keep hz).ch (Ch.toGrown hR2) (row_map_ne HKV2.out hm3.out)
            have hm7 := Lib.hid (hm12.ch hcs (fun e => row_map_ne hkr12 hm12 (by show some g = _; rw [show b = g from e])))
            have hyz : (wc.drew.alloc (.cells #[.int .i64 xk, .int .i64 fr] 145)).ownsRow w1.heap.size 121 3 (.slice (some ady) m cy) ys.length (flatO ys) := row_keep hy4.out hz
            have hy12 := hyz.kept hR2 (by
              cases hq : (Value.slice Ak lk ck).ownBlock with
              | none => exact .inr (by simp [Value.ownBlock])
              | some q => exact .inr (row_row_ne HKV2.out hy4.out (by decide) q hq))
            have hy7 := Lib.hid (show OwnO (w12.setCell (a1.add i) (.slice Av (lk + 1) cv)) w1.heap.size 121 (.slice (some ady) m cy) ys from row_other hy12 hcs (row_row_ne hkr12 hy12 (by decide) g rfl))
            have hgw : base ≤ g := (HKR.out.lt g rfl).1
            have hc7 : Ch (fun q => base ≤ q) w (w12.setCell (a1.add i) (.slice Av (lk + 1) cv)) := ((hc3.seq hz).grown hR2 (fun k _ e => (HKV2.out.lt k e).1)).trans hcs (fun k _ e => by rw [show k = g from e]; exact hgw)
            clear HO7 hkr12 hcs hm12 hyz hy12 hz hadr hR1 hR2 hR3 hR2k hu ho3g
            go_wp2_with fail
            refine (add_from _ go n S T (frTo M i ys F j) _ _ _ _ _ (frTo_ok hF j) fr i HO7h.out.blk).mono ?_
            rintro e w14 ⟨rfl, hb14, hc14⟩
            have HO8 := HO7h.out.obj hc14 hb14
            rw [HFS2.out] at HO8
            have HO8h := Lib.hid HO8
            have hm8 := Lib.hid (hm7.out.ch hc14 (fun e => blk_map_ne HO7h.out.blk hm7.out (show b = go from e).symm))
            have hy8 := Lib.hid (show OwnO w14 w1.heap.size 121 (.slice (some ady) m cy) ys from row_other hy7.out hc14 (row_blk_ne hy7.out HO7h.out.blk (by decide)))
            have hc8 : Ch (fun q => base ≤ q) w w14 := hc7.trans hc14 (fun k _ e => by rw [show k = go from e]; exact HO7h.out.ge.1)
            have HSD2 := Lib.hid (HSD.out.symm)
            clear HO8 hb14 hc14 hm7 hy7 hc7 HO7h
            go_wp2_with fail
            go_roundw
            case rel => exact ⟨j + 1, sd && ok, _, by go_num, rfl, by omega, HSD2, HO8h, hy8, hm8, hc8⟩
            case measure => simp [intOf]; omega
    · have hd : decide ((j : Int) < (m : Int)) = false := decide_eq_false (by omega)
      obtain rfl : m = j := by omega
      go_wp2_with fail
      go_ret
      exact ⟨ret_bool (by rw [HMM.out]; exact hsd.out), ⟨RV, by rw [HMM.out]; exact ho.out⟩, hc⟩
end Go.Proofs.YtlhfpnkfapghoaaDoor
end
