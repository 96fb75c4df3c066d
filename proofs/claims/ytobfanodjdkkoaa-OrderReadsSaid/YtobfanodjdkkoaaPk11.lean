/- Texts of this claim, merged: OrdZ. -/
import Derived.Test.YtobfanodjdkkoaaPk3
import Derived.Test.YtobfanodjdkkoaaPk5
import Derived.Test.YtobfanodjdkkoaaPk8
section
/- The law OrderReads: what each reads of others, which keys it writes to, whether all is sound. No condition but each theorem's own. -/
set_option linter.unusedVariables false
set_option linter.unusedSimpArgs false
namespace Go.Proofs.Ytobfanodjdkkoaa
open Go.RowKit Go.Maps

theorem bne_self3 (b : Bool) : (b != b) = false := by cases b <;> rfl
theorem doc_zero3 {hs : List Txr} (h : docH hs = 0) : bigB hs = false ∧ mayH hs = true := by
  cases hb : bigB hs with
  | true => rw [doc_big hb] at h; cases h
  | false =>
    cases hm : mayH hs with
    | true => exact ⟨rfl, rfl⟩
    | false => rw [doc_no hb hm] at h; cases h
theorem elem_z : ElemOK Try.prog 65 3 (.int .i64 0) 1 8 := ⟨by kernel_rfl, by kernel_rfl⟩
theorem map_take_succ (ys : List Opn) (j : Nat) (hj : j < ys.length) : ((ys.take j).map Opn.key) ++ [(ys.getD j opZero).key] = (ys.take (j + 1)).map Opn.key := by
  rw [List.take_add_one, List.map_append, List.getElem?_eq_getElem hj, List.getD_eq_getElem?_getD, List.getElem?_eq_getElem hj]
  rfl
theorem own_off_op {w w' : World} {base e b2 e2 : Nat} {k : IntKind} {v u : Value} {xs : List Opn} {ys : List Int} (h : OwnO w base e v xs) (r : OwnK k w b2 e2 u ys) (hne : e ≠ e2) (hg : w.grownBy w' u.ownBlock) : OwnO w' base e v xs :=
  h.grown hg fun b hb hq => row_row_ne (w := w) h r hne b hb hq
theorem key_has {hs : List Txr} {n i : Nat} (hn : n ≤ 64) (hi : i < n) {k : Int} (hk : k ∈ (wOf hs i).map Opn.key) : hasS ((wF hs n k).getD 0) (i : Int) = true := by
  unfold hasS
  rw [show inS (i : Int) = true from by unfold inS; exact decide_eq_true (by omega), Bool.true_and, Int.toNat_natCast, wF_bit hs k i n hn, decide_eq_true hi, Bool.true_and]
  obtain ⟨x, hx, rfl⟩ := List.mem_map.1 hk
  exact List.any_eq_true.2 ⟨x, hx, beq_self_eq_true _⟩
theorem getD_mem_int {l : List Int} {j : Nat} (h : j < l.length) : l.getD j 0 ∈ l := by
  rw [List.getD_eq_getElem?_getD, List.getElem?_eq_getElem h]; exact List.getElem_mem h
theorem key_wf {x : Int} (h : 0 ≤ x ∧ x < 64) : (Lit.int .i64 x).wf = true := by
  simp [Lit.wf, IntKind.min, IntKind.max, IntKind.signed, IntKind.bits]
  omega
/-- The step of a loop over a map whose elements are sets. -/
theorem wpList_imap_sets {P : Program} (w : World) {ops : Array Oper} {rest : List Oper} {o : Oper} {a : Act} {Q : Exit → Act → World → Prop} (hg : o.guard = none) (it : Operand) (hop : o.op = Op.next it false) (K : TypeId) (hK : P.underlying K = some (.int .i64))
    (b r c : Nat) (F : Int → Option Nat) (left : Int → Bool) (cnt : Nat) (hm : a.eval it = .pointer (some ⟨r, 0, none⟩)) (h : IRange P K w b r c (setF F) left cnt)
    (hDone : (∀ k, left k = false) → wpList P ops Q rest (a.put o.dst (.tuple #[.bool false])) w)
    (hMore : ∀ (k : Int) (s : Nat) (w' : World) (cnt' : Nat), left k = true → F k = some s → IRange P K w' b r c (setF F) (fun x => left x && !decide (x = k)) cnt' → cnt' < cnt → Ch (· = r) w w' → w'.heap.size = w.heap.size →
      (Instr.entry (.pointer (some ⟨r, 0, none⟩))).run P w' = .ok (.tuple #[.int .i64 k, .int .u64 (s : Nat)]) w' → wpList P ops Q rest (a.put o.dst (.tuple #[.bool true, .int .i64 k, .int .u64 (s : Nat)])) w') : wpList P ops Q (o :: rest) a w :=
  wpList_imap_next w hg it hop K hK b r c _ left cnt hm h hDone fun k v w' cnt' h1 h2 h3 h4 h5 h6 h7 h8 => by
    obtain ⟨y, hy, rfl⟩ := Option.map_eq_some_iff.1 h3
    exact hMore k y w' cnt' h2 hy h4 h5 h6 h7 h8
set_option maxRecDepth 100000 in
set_option maxHeartbeats 8000000 in
theorem law_orderreads (w : World) (v : Value) (hs : List Txr) (hv : Txns w v hs) (hk : TxnsOk hs) (hL : LensOk hs) : Calls Try.prog 8 #[v] w fun e w' => e = .returned (.bool true) ∧ Below w.heap.size w w' := by
  obtain ⟨A, cp, rfl⟩ := hv.shape
  have HV := Lib.hid hv
  have HK := Lib.hid hk
  have HLN := Lib.hid hL
  obtain ⟨_, ⟨_, hlen⟩, _⟩ := hv.at
  obtain ⟨n, hn2⟩ : ∃ n, hs.length = n := ⟨_, rfl⟩
  have HN := Lib.hid hn2
  rw [hn2] at HV hlen ⊢
  clear hv hk hL hn2
  go_enter Try.func8, Try.ntmps8
  go_wp2_with fail
  refine (speaks08 _).mono ?_
  rintro e w1 ⟨rfl, hc1⟩
  go_wp2_with fail
  refine (big06 _ _ hs (HV.out.keep hc1) HLN.out).mono ?_
  rintro e w2 ⟨rfl, hc2⟩
  have hc3 := hc1.seq hc2
  clear hc1 hc2
  cases hb : bigN hs with
  | true =>
    rw [bigZ_yes hb]
    go_wp2_with fail
    go_ret
    exact ⟨rfl, hc3.below⟩
  | false =>
    rw [bigZ_no hb]
    have HC := Lib.hid (show countTo hs hs.length ≤ 1200 from (bigN_count hb).2)
    clear hb
    have H2 := check_ref06 w2 (.slice A n cp) hs (HV.out.keep hc3) (by have := HC.out; omega)
    obtain ⟨z, hz⟩ : ∃ z, docH hs = z := ⟨_, rfl⟩
    rw [hz] at H2
    have HZ := Lib.hid hz
    have H22 := Lib.hid H2
    clear hz H2
    cases hne : (z != 0) with
    | true =>
      go_wp2_with fail
      refine H22.out.mono ?_
      rintro e w3 ⟨rfl, hcA⟩
      have hc4 := hc3.seq hcA
      clear H22 hcA hc3
      go_wp2_with fail
      go_ret
      exact ⟨rfl, hc4.below⟩
    | false =>
      have hz0 : z = 0 := by simpa using hne
      have HD := Lib.hid (doc_zero3 (HZ.out.trans hz0))
      clear hz0
      cases d20 : decide ((20 : Int) < (n : Int)) with
      | true =>
        go_wp2_with fail
        refine H22.out.mono ?_
        rintro e w3 ⟨rfl, hcA⟩
        have hc4 := hc3.seq hcA
        clear H22 hcA hc3
        go_wp2_with fail
        go_ret
        exact ⟨rfl, hc4.below⟩
      | false =>
        have hn20 : n ≤ 20 := by have := of_decide_eq_false d20; omega
        go_wp2_with fail
        refine H22.out.mono ?_
        rintro e w4 ⟨rfl, hcA⟩
        have hc4 := hc3.seq hcA
        have H1 := Lib.hid (of_order w4 _ hs (HV.out.keep hc4) HK.out HD.out.2 HD.out.1)
        clear H22 hcA hc3
        go_wp2_with fail
        refine H1.out.mono ?_
        rintro e w5 ⟨base, go, gm, c, A1, c1, A2, c2, KV, RV, M, rfl, hM, HO, hbs, hcA⟩
        rw [HN.out] at HO
        have hc5 := hc4.seq hcA
        have HM := Lib.hid hM
        have HOO := Lib.hid HO
        have hx5 := ord_keys HO.blk
        have hx6 := ord_reads HO.blk
        have hx7 := ord_sound HO.blk
        have hx4 := ord_map HO.blk
        have HSN := Lib.hid (fun (u : Ext w5) => ext_of (sound_ref08 u.val _ hs M (HV.out.keep (hc5.seq u.ch)) (by have := HC.out; omega) HD.out.2 hM))
        rw [HN.out] at HSN
        obtain ⟨sb, hsb⟩ : ∃ b, sdAll M hs n = b := ⟨_, rfl⟩
        rw [hsb] at hx7 HSN
        have esb := bne_self3 sb
        have hnn : ((n : Int) != (n : Int)) = false := by simp
        have X0 := fun q : Ext w5 => Ext.cell hx5 q
        have X1 := fun q : Ext w5 => Ext.cell hx6 q
        have X2 := fun q : Ext w5 => Ext.cell hx7 q
        have HX5 := Lib.hid (fun u (hc : Ch nob w5 u) => cell_keep hx5 hc)
        have HX6 := Lib.hid (fun u (hc : Ch nob w5 u) => cell_keep hx6 hc)
        have HX4 := Lib.hid (fun u (hc : Ch nob w5 u) => cell_keep hx4 hc)
        clear hM HO hbs hcA H1 hsb hc4 hx5 hx6 hx7 hx4
        go_wp2_with fail
        refine wp_region_ch (w0 := w5) (by kernel_rfl) (by kernel_rfl) (Ch.refl _ _) ?_
        repeat go_big_quiet_step (exact HSN.out _)
        refine wpQuiet_nil ?_
        rintro wq ⟨⟨_, hcq⟩, rfl⟩
        clear X0 X1 X2 HSN
        go_wp2_with fail
        go_loopw [75, 5] (fun x y wr => ∃ i : Nat, x = .int .i64 i ∧ i ≤ n ∧ y = .int .i64 (lenTo hs i : Nat) ∧ Ch nob w5 wr) (fun x _ _ => n - (intOf x).toNat)
        case atStart => exact ⟨0, rfl, Nat.zero_le _, rfl, hcq⟩
        case round =>
          clear hcq
          obtain ⟨i, rfl, hi, rfl, hc⟩ := hrel
          have hlle := lenTo_le hs i
          have HLS := Lib.hid (show lenTo hs (i + 1) = lenTo hs i + (wOf hs i).length from rfl)
          obtain ⟨lt, hlt0⟩ : ∃ l, lenTo hs i = l := ⟨_, rfl⟩
          rw [hlt0] at hlle HLS ⊢
          have HLT0 := Lib.hid hlt0
          clear hlt0
          by_cases hlt : i < n
          · have hd : decide ((i : Int) < (n : Int)) = true := decide_eq_true (by omega)
            have HI := Lib.hid (show i < hs.length from by rw [HN.out]; exact hlt)
            obtain ⟨ad, u, rfl, hx0, hx1, hx2, hx3, hu⟩ := HV.out.both (hc5.seq hc) i HI.out
            obtain ⟨T, hT⟩ : ∃ T, hs.getD i txrZero = T := ⟨_, rfl⟩
            have hxl := may_len HD.out.2 HI.out
            have hwr := Lib.hid (show writesR (hs.getD i txrZero).ops 64 = wOf hs i from rfl)
            rw [hT] at hx0 hx1 hx2 hu hxl hwr
            obtain ⟨ts, tb, tc, xs⟩ := T
            dsimp only at hx0 hx1 hx2 hu hxl hwr
            obtain ⟨Au, cu, rfl⟩ := hu.shape
            obtain ⟨l, hl⟩ : ∃ l, xs.length = l := ⟨_, rfl⟩
            rw [hl] at hx3 hu
            have HU := Lib.hid hu
            have HXL := Lib.hid hxl
            have hcA : Ch nob wr (wr.alloc (.cells #[.int .i64 ts, .int .i64 tb, .int .i64 tc, .slice Au l cu] 33)) := (Ch.refl _ _).alloc _
            have hcB := hc.seq hcA
            have HBX := Lib.hid (Blk.new wr #[.int .i64 ts, .int .i64 tb, .int .i64 tc, .slice Au l cu] 33)
            have HR8 := Lib.hid (reads_ref08 _ _ hs i M (HV.out.keep (hc5.seq hcB)) (by have := HC.out; omega) HD.out.2 HM.out HI.out)
            have HRV := Lib.hid (OwnP.prs (e := 63) (HOO.out.rv i hlt))
            have HRS := Lib.hid (rsAll_at M hs n i hlt)
            rw [HRS.out] at HRV
            obtain ⟨zs, hzs⟩ : ∃ l, rdOf M hs i = l := ⟨_, rfl⟩
            rw [hzs] at HR8 HRV
            obtain ⟨q, hq⟩ : ∃ q, zs.length = q := ⟨_, rfl⟩
            have HQ := Lib.hid hq
            obtain ⟨A5, k5, hR5⟩ := HRV.out.shape
            rw [hq] at hR5
            have hql : q ≤ 9223372036854775807 := by
              have h := HRV.out
              rw [hR5] at h
              have := h.at.2.1.2
              omega
            obtain ⟨g2, rfl, hrvi⟩ := row_cells HOO.out.rrow hlt (range_at n i hlt RV)
            rw [hR5] at hrvi
            have HRV2 := Lib.hid (show Prs w5 (.slice A5 q k5) zs from by rw [← hR5]; exact HRV.out)
            have HX8 := Lib.hid (fun u (hc : Ch nob w5 u) => cell_keep hrvi hc)
            clear hT hu hl hxl hc hcA hq hzs hR5 hrvi HRV HRS
            go_wp2_with fail
            refine HR8.out.mono ?_
            rintro e w6 ⟨v6, rfl, ho6, hc6⟩
            have hcC := hcB.seq hc6
            obtain ⟨A6, k6, hv6⟩ := ho6.prs.shape
            rw [HQ.out] at hv6
            subst hv6
            have HW6 := Lib.hid ho6.prs
            have hb6 := HBX.out.ch hc6 (fun h => h)
            obtain ⟨gx, hgx⟩ : ∃ g, wr.heap.size = g := ⟨_, rfl⟩
            rw [hgx] at hb6 ⊢
            have HB6 := Lib.hid hb6
            have y6 := HX6.out w6 hcC
            have y8 := HX8.out w6 hcC
            have hqq : ((q : Int) != (q : Int)) = false := by simp
            clear HR8 ho6 hc6 hcB HBX hgx hb6 hx0 hx1 hx2 hx3
            go_wp2_with fail
            go_loopw [102] (fun x wr => ∃ k : Nat, x = .int .i64 k ∧ k ≤ q ∧ Ch nob w6 wr) (fun x _ => q - (intOf x).toNat)
            case atStart => exact ⟨0, rfl, Nat.zero_le _, Ch.refl _ _⟩
            case round =>
              clear y6 y8
              obtain ⟨k, rfl, hk, hc7⟩ := hrel
              by_cases hlt2 : k < q
              · have hd2 : decide ((k : Int) < (q : Int)) = true := decide_eq_true (by omega)
                obtain ⟨a5, rfl, p0, p1⟩ := (HRV2.out.keep (hcC.seq hc7)).at.2.2 k (by rw [HQ.out]; exact hlt2)
                obtain ⟨a6, rfl, r0, r1⟩ := (HW6.out.keep hc7).at.2.2 k (by rw [HQ.out]; exact hlt2)
                obtain ⟨x, hx⟩ : ∃ x, zs.getD k (0, 0) = x := ⟨_, rfl⟩
                rw [hx] at p0 p1 r0 r1
                obtain ⟨xa, xb⟩ := x
                dsimp only at p0 p1 r0 r1
                have hnb := Blk.new wr #[.int .i64 xa, .int .i64 xb] 63
                have n0 := hnb.cell (i := 0) (v := .int .i64 xa) rfl
                have n1 := hnb.cell (i := 1) (v := .int .i64 xb) rfl
                have hcn : Ch nob wr (wr.alloc (.cells #[.int .i64 xa, .int .i64 xb] 63)) := (Ch.refl _ _).alloc _
                have q0 := cell_keep r0 hcn
                have q1 := cell_keep r1 hcn
                have hc8 := hc7.seq hcn
                have X0 := fun q : Ext _ => Ext.cell n0 q
                have X1 := fun q : Ext _ => Ext.cell n1 q
                have X2 := fun q : Ext _ => Ext.cell q0 q
                have X3 := fun q : Ext _ => Ext.cell q1 q
                clear hx hnb
                go_wp2_with fail
                refine wp_region_ch (w0 := _) (by kernel_rfl) (by kernel_rfl) (Ch.refl _ _) ?_
                repeat go_big_quiet_step (fail)
                refine wpQuiet_nil ?_
                rintro wzq ⟨⟨_, hcz⟩, rfl⟩
                have hc9 := hc8.seq hcz
                clear X0 X1 X2 X3 n0 n1 q0 q1 p0 p1 r0 r1 hc7 hc8 hcn hcz
                go_wp2_with fail
                go_roundw
                case rel => exact ⟨k + 1, by go_num, by omega, hc9⟩
                case measure => simp [intOf]; omega
              · have hd2 : decide ((k : Int) < (q : Int)) = false := decide_eq_false (by omega)
                obtain rfl : k = q := by omega
                have hcD := hcC.seq hc7
                have p3 := (HB6.out.ch hc7 (fun h => h)).cell (i := 3) (v := .slice Au l cu) rfl
                have HWR := Lib.hid (writes_ref05 wr (.slice Au l cu) xs (HU.out.keep (hc5.seq hcD)) (Nat.le_trans HXL.out (by decide)))
                rw [hwr.out] at HWR
                have HYK := Lib.hid (fun x (hx : x ∈ wOf hs i) => (wOf_mem hx).1)
                have HYH := Lib.hid (fun (key : Int) (hk : key ∈ (wOf hs i).map Opn.key) => key_has (hs := hs) (n := n) (by omega) hlt hk)
                have HKT := Lib.hid (show kTo hs n 0 i = (wOf hs i).map Opn.key from by unfold kTo; rw [if_pos hlt])
                have HKV := Lib.hid (HOO.out.kv i hlt).ints
                rw [HKT.out] at HKV
                have hq3l : (wOf hs i).length ≤ 64 := writesR_len _ 64
                obtain ⟨ys, hys⟩ : ∃ l, wOf hs i = l := ⟨_, rfl⟩
                rw [hys] at HWR HYK HYH HLS HKV hq3l
                clear hys HKT hcC hc7 HB6 HW6 HRV2 HX8
                go_wp2_with fail
                refine HWR.out.mono ?_
                rintro e w7 ⟨v7, rfl, ho7, hcx⟩
                obtain ⟨A7, k7, hv7⟩ := ho7.opl.shape
                obtain ⟨q3, hq3⟩ : ∃ q, ys.length = q := ⟨_, rfl⟩
                have HQ3 := Lib.hid hq3
                rw [hq3] at hv7 hq3l HLS
                subst hv7
                have HO7 := Lib.hid ho7
                have hcE := hcD.seq hcx
                obtain ⟨bo, hbo⟩ : ∃ b, wr.heap.size = b := ⟨_, rfl⟩
                rw [hbo] at HO7
                clear HWR ho7 hcx hcD hbo hq3 p3
                go_wp2_with fail
                obtain ⟨bl, hbl⟩ : ∃ b, w7.heap.size = b := ⟨_, rfl⟩
                have hblw : bl ≤ w7.heap.size := by omega
                have HK0 := Lib.hid (show OwnK .i64 w7 bl 3 (.slice none 0 0) ((ys.take 0).map Opn.key) from by rw [List.take_zero]; exact OwnK.nil _ _ _ _)
                go_loopw [125, 11] (fun x y wr => ∃ j : Nat, x = .int .i64 j ∧ j ≤ q3 ∧ Hid (OwnK .i64 wr bl 3 y ((ys.take j).map Opn.key)) ∧ Hid (OwnO wr bo 35 (.slice A7 q3 k7) ys) ∧ Ch nob w7 wr) (fun x _ _ => q3 - (intOf x).toNat)
                case atStart => exact ⟨0, rfl, Nat.zero_le _, HK0, HO7, Ch.refl _ _⟩
                case round =>
                  clear HK0 HO7
                  obtain ⟨j, rfl, hj, hw, ho, hc8⟩ := hrel
                  by_cases hlt3 : j < q3
                  · have hd3 : decide ((j : Int) < (q3 : Int)) = true := decide_eq_true (by omega)
                    obtain ⟨a7, rfl, p0, p1, p2⟩ := ho.out.opl.at.2.2 j (by rw [HQ3.out]; exact hlt3)
                    have hst := map_take_succ ys j (by rw [HQ3.out]; exact hlt3)
                    have hlen3 : ((ys.take j).map Opn.key).length ≤ 100000000000 := by rw [List.length_map, List.length_take]; omega
                    obtain ⟨x, hx⟩ : ∃ x, ys.getD j opZero = x := ⟨_, rfl⟩
                    rw [hx] at p0 p1 p2 hst
                    obtain ⟨xw, xk, xv⟩ := x
                    dsimp only at p0 p1 p2 hst
                    have HST := Lib.hid hst
                    have HL3 := Lib.hid hlen3
                    have hnb := Lib.hid (Blk.new (wr.alloc (.cells #[.bool xw, .int .i64 xk, .int .i64 xv] 35)) #[.int .i64 xk] 3)
                    have hw2 := Lib.hid ((hw.out.alloc (.cells #[.bool xw, .int .i64 xk, .int .i64 xv] 35)).alloc (.cells #[.int .i64 xk] 3))
                    have ho2 := Lib.hid ((ho.out.alloc (.cells #[.bool xw, .int .i64 xk, .int .i64 xv] 35)).alloc (.cells #[.int .i64 xk] 3))
                    have hc9 := (hc8.alloc (.cells #[.bool xw, .int .i64 xk, .int .i64 xv] 35)).alloc (.cells #[.int .i64 xk] 3)
                    have hz9 := Lib.hid (Nat.le_trans hblw hc9.size)
                    have hbl2 := Lib.hid hbl
                    clear hx hst hlen3 hw ho hc8
                    go_wp2_with (at_builtin; refine wpList_append_int rfl (.tmp 129) (.tmp 132) 65 3 rfl .i64 8 elem_z (by decide) bl _ _ rfl hw2.out _ xk 3 rfl (by simpa using hnb.out) HL3.out hz9.out ?_; intro v' w' hown hg; have hc10 := hc9.grown_own hg (fun b hb => by have := (hw2.out.ge b hb).1; have := hbl2.out; omega))
                    have ho3 := Lib.hid (own_off_op ho2.out hw2.out (by decide) hg)
                    have hw3 := Lib.hid (show OwnK .i64 w' bl 3 v' ((ys.take (j + 1)).map Opn.key) from by rw [← HST.out]; exact hown)
                    clear hnb hw2 ho2 hc9 hz9 hown hg
                    go_roundw
                    case rel => exact ⟨j + 1, by go_num, by omega, hw3, ho3, hc10⟩
                    case measure => simp [intOf]; omega
                  · have hd3 : decide ((j : Int) < (q3 : Int)) = false := decide_eq_false (by omega)
                    obtain rfl : j = q3 := by omega
                    have hw2 := hw.out
                    rw [← HQ3.out, List.take_length] at hw2
                    have hcF := hcE.seq hc8
                    obtain ⟨g1, rfl, hkvi⟩ := row_cells HOO.out.krow hlt (range_at n i hlt KV)
                    have ha := HKV.out.keep hcF
                    obtain ⟨A8, k8, hK8⟩ := ha.shape
                    rw [hK8] at hkvi ha
                    obtain ⟨A9, k9, hK9⟩ := hw2.ints.shape
                    have hb := hw2.ints
                    rw [hK9] at hb ⊢
                    have HS := Lib.hid (Ref01.same_ref01 _ _ _ _ wr ha hb)
                    rw [decide_eq_true rfl] at HS
                    rw [List.length_map, HQ3.out] at hkvi HS hb ⊢
                    have HB := Lib.hid hb
                    have y5 := HX5.out wr hcF
                    have y9 := cell_keep hkvi hcF
                    clear hw hw2 ho ha hb hK8 hK9 hkvi hc8 hcE HKV
                    go_wp2_with fail
                    refine HS.out.mono ?_
                    rintro e w8 ⟨rfl, hdr⟩
                    have hcG := hcF.seq hdr.ch
                    have HB8 := Lib.hid (HB.out.keep hdr.ch)
                    clear HS hdr hcF HB y5 y9
                    go_wp2_with fail
                    go_loopw [147] (fun x wr => ∃ m : Nat, x = .int .i64 m ∧ m ≤ j ∧ Ch nob w8 wr) (fun x _ => j - (intOf x).toNat)
                    case atStart => exact ⟨0, rfl, Nat.zero_le _, Ch.refl _ _⟩
                    case round =>
                      obtain ⟨m, rfl, hm, hc9⟩ := hrel
                      by_cases hlt4 : m < j
                      · have hd4 : decide ((m : Int) < (j : Int)) = true := decide_eq_true (by omega)
                        have hml : m < (ys.map Opn.key).length := by rw [List.length_map, HQ3.out]; exact hlt4
                        obtain ⟨a9, rfl, p0⟩ := (HB8.out.keep hc9).at.2.2 m hml
                        have hmem := getD_mem_int hml
                        obtain ⟨xk, hxk⟩ : ∃ x, (ys.map Opn.key).getD m 0 = x := ⟨_, rfl⟩
                        rw [hxk] at p0 hmem
                        have hwf : (Lit.int .i64 xk).wf = true := by
                          obtain ⟨x, h1, rfl⟩ := List.mem_map.1 hmem
                          exact key_wf (HYK.out x h1)
                        have hhas := HYH.out xk hmem
                        have hy4 := HX4.out wr (hcG.seq hc9)
                        have hmp := (HOO.out.map.keep (hcG.seq hc9))
                        have hlt64 := wF_ok hs n xk
                        obtain ⟨sv, hsv⟩ : ∃ s, (wF hs n xk).getD 0 = s := ⟨_, rfl⟩
                        have HGET := Lib.hid (show (setF (wF hs n) xk).getD (.int .u64 0) = .int .u64 (sv : Nat) from by rw [setF_get, hsv])
                        rw [hsv] at hhas hlt64
                        have HHS := Lib.hid (has_set sv (i : Int) wr hlt64)
                        rw [hhas] at HHS
                        clear hxk hmem hhas hlt64 hsv hml
                        go_wp2_with (at_lookup; refine wpList_imap_get _ rfl _ _ 52 rfl 3 49 under_int under_mset _ (zero_set _) _ _ _ rfl hmp _ rfl hwf ?_; rw [HGET.out])
                        refine HHS.out.mono ?_
                        rintro e w9 ⟨rfl, rfl⟩
                        clear HHS HGET hmp
                        go_wp2_with fail
                        go_roundw
                        case rel => exact ⟨m + 1, by go_num, by omega, hc9⟩
                        case measure => simp [intOf]; omega
                      · have hd4 : decide ((m : Int) < (j : Int)) = false := decide_eq_false (by omega)
                        have hc10 := hcG.seq hc9
                        go_wp2_with fail
                        go_roundw
                        case rel => exact ⟨i + 1, by go_num, by omega, by rw [HLS.out]; go_num, hc10⟩
                        case measure => simp [intOf]; omega
          · have hd : decide ((i : Int) < (n : Int)) = false := decide_eq_false (by omega)
            obtain rfl : i = n := by omega
            have hmp := HOO.out.map.keep hc
            have hy4 := HX4.out wr hc
            go_wp2_with (at_range; refine wpList_imap_range _ rfl _ 52 rfl 3 49 under_int under_mset _ _ _ rfl hmp ?_; intro w7 hr7 hc8 hs8)
            go_frame
            have hr8 := Lib.hid hr7
            have hc9 := hc.seq hc8
            have hge := HOO.out.map.lt
            have hgw : gm < w5.heap.size := hge
            have hrw : w5.heap.size ≤ wr.heap.size := hc.size
            obtain ⟨rr, hrr2⟩ : ∃ rr, wr.heap.size = rr := ⟨_, rfl⟩
            rw [hrr2] at hr8 hrw ⊢
            have HSUM := Lib.hid (show sumL (wF hs i) (fun k => (setF (wF hs i) k).isSome) 64 = lt from by
              have h1 : (fun k => (setF (wF hs i) k).isSome) = (fun k => (wF hs i k).isSome) := by funext k; unfold setF; rw [Option.isSome_map]
              rw [h1, sumL_start, sumQ_all hs i (by omega), HLT0.out])
            have HWS := Lib.hid (wF_some hs i)
            have HWO := Lib.hid (wF_ok hs i)
            obtain ⟨f, hf⟩ : ∃ f, wF hs i = f := ⟨_, rfl⟩
            rw [hf] at hr8 HSUM HWS HWO
            clear hmp hr7 hc8 hs8 hrr2 hge hf hc hy4
            go_loopw [5] (fun y wr => ∃ (left : Int → Bool) (cnt sm : Nat), Hid (IRange Try.prog 3 wr gm rr c (setF f) left cnt) ∧ y = .int .i64 (sm : Nat) ∧ sm ≤ 4096 ∧ Hid (sumL f left 64 = sm) ∧ rr < wr.heap.size ∧ Ch nob w5 wr) (fun _ wr => wr.rangeLeft gm rr)
            case atStart => exact ⟨_, c, lt, hr8, rfl, by omega, HSUM, by have := hr8.out.lt.2; exact this, hc9⟩
            case round =>
              clear hr8 HSUM hc9
              obtain ⟨left, cnt, sm, hr, rfl, hsm, hsum, hrz, hcz⟩ := hrel
              have hro := hr.out
              go_wp2_with (at_next; refine wpList_imap_sets _ rfl _ rfl 3 under_int gm rr c f left cnt rfl hro ?_ ?_)
              · intro hl0
                have hs0 : sm = 0 := by rw [← hsum.out]; exact sumL_end f hl0 64
                subst hs0
                go_wp2_with fail
                go_ret
                exact ⟨rfl, (hc5.seq hcz).below⟩
              · intro k s w1 cnt1 hlk hFk hr1 hlt1 hc1 hs1 hen
                have hks := HWS.out k (by rw [hFk]; rfl)
                have hstp := sumL_step f left k hlk hks.1 64 hks.2
                have hck : cntQ f k = Bits.count s := by unfold cntQ; rw [hFk]; rfl
                have hsl : s < 18446744073709551616 := by have := HWO.out k; rw [hFk] at this; exact this
                rw [hck, hsum.out] at hstp
                have HCT := Lib.hid (count_set s w1 hsl)
                have hr3 := Lib.hid hr1
                have hc3 : Ch nob w5 w1 := hcz.fresh hc1 (by omega)
                have hleft := Lib.hid (show wr.rangeLeft gm rr = cnt from hro.left_eq)
                have hz1 : rr < w1.heap.size := by omega
                obtain ⟨s2, hs2⟩ : ∃ q, sumL f (fun x => left x && !decide (x = k)) 64 = q := ⟨_, rfl⟩
                rw [hs2] at hstp
                have HS2 := Lib.hid hs2
                obtain ⟨ct, hct⟩ : ∃ q, Bits.count s = q := ⟨_, rfl⟩
                rw [hct] at hstp HCT
                have hfin := Lib.hid (show w1.rangeLeft gm rr < wr.rangeLeft gm rr from by rw [hr1.left_eq, hro.left_eq]; exact hlt1)
                clear hr hro hcz hlk hFk hc1 hs1 hr1 hks hck hsl hs2 hct hsum hleft hlt1
                go_wp2_with fail
                refine HCT.out.mono ?_
                rintro e w2 ⟨rfl, rfl⟩
                clear HCT hen
                go_wp2_with fail
                go_roundw
                case rel => exact ⟨_, cnt1, s2, hr3, by go_num, by omega, HS2, hz1, hc3⟩
                case measure => exact hfin.out
end Go.Proofs.Ytobfanodjdkkoaa
end
