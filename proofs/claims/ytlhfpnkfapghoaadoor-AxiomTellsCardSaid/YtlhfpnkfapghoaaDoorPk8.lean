/- Texts of this claim, merged: OrdOf. -/
import Derived.Test.YtlhfpnkfapghoaaDoorPk4
import Derived.Test.YtlhfpnkfapghoaaDoorPk6
import Derived.Test.YtlhfpnkfapghoaaDoorPk7
section
/- What follows of a history (order.Of). No condition but each theorem's own. -/
set_option linter.unusedVariables false
set_option linter.unusedSimpArgs false
namespace Go.Proofs.YtlhfpnkfapghoaaDoor
open Go.RowKit Go.Maps

/-- The object as the literal makes it. -/
theorem ords_made {w : World} {base go gm n : Nat} {A1 A2 : Option Addr} {c1 c2 : Nat} (h1 : base ≤ go) (h2 : Blk w go (ordC n (fun _ => 0) (fun _ => 0) (fun _ => 0) (.map (some gm)) (.slice A1 n c1) (.slice A2 n c2) true) 110) (h3 : base ≤ gm) (h4 : IMap Tryd.prog 3 w gm 0 (fun _ => none))
    (h5 : w.ownsRow base 35 1 (.slice A1 n c1) n (List.replicate n (.slice none 0 0))) (h6 : w.ownsRow base 144 1 (.slice A2 n c2) n (List.replicate n (.slice none 0 0))) :
    Ords w base go gm 0 n (fun _ => 0) (fun _ => 0) (fun _ => 0) (fun _ => none) A1 c1 A2 c2 (fun _ => .slice none 0 0) (fun _ => .slice none 0 0) (fun _ => []) (fun _ => []) true := by
  have e : List.replicate n (Value.slice none 0 0) = (List.range n).map fun _ => Value.slice none 0 0 := by rw [List.map_const', List.length_range]
  exact ⟨⟨h1, h3⟩, h2, h4, e ▸ h5, e ▸ h6, fun i hi => OwnK.nil _ _ _ _, fun i hi => World.ownsRow_nil _ _ _ _, fun i j _ _ _ b hb => (by cases hb), fun i j _ _ _ b hb => (by cases hb)⟩
set_option maxRecDepth 100000 in
set_option maxHeartbeats 8000000 in
theorem of_order (w : World) (v : Value) (hs : List Txr) (hv : Txns w v hs) (hk : TxnsOk hs) (hmy : mayH hs = true) (hbg : bigB hs = false) : Calls Tryd.prog 17 #[v] w (OfPost w hs) := by
  obtain ⟨A, cp, rfl⟩ := hv.shape
  have HV := Lib.hid hv
  have HK := Lib.hid hk
  have HMY := Lib.hid hmy
  have hdoc := doc_may hbg hmy
  have hbb := hbg
  unfold bigB at hbb
  rw [Bool.or_eq_false_iff, decide_eq_false_iff_not, decide_eq_false_iff_not] at hbb
  have HCN := Lib.hid (show countTo hs hs.length ≤ 1000000 by omega)
  obtain ⟨n, hn2⟩ : ∃ n, hs.length = n := ⟨_, rfl⟩
  have hn64 : n ≤ 64 := by omega
  have HN := Lib.hid hn2
  rw [hn2] at HV ⊢
  have hb0 := Blk.new w #[.slice A n cp] 22
  have hcA : Ch nob w (w.alloc (.cells #[.slice A n cp] 22)) := (Ch.refl _ _).alloc _
  have HC := check_history (w.alloc (.cells #[.slice A n cp] 22)) (.slice A n cp) hs (HV.out.keep hcA) HK.out HCN.out
  rw [check_is, hdoc] at HC
  have HC2 := Lib.hid HC
  clear hv hk hmy hdoc hbb hn2 HC hbg
  go_enter Tryd.func17, Tryd.ntmps17
  go_wp2_with fail
  refine HC2.out.mono ?_
  rintro e w1 ⟨rfl, hc1⟩
  have hb1 := hb0.ch hc1 (fun h => h)
  have hp1 := hb1.cell (i := 0) (v := .slice A n cp) rfl
  have hcB := hcA.seq hc1
  clear HC2 hb0 hc1 hcA
  go_wp2_with fail
  refine (writes_history w1 (.slice A n cp) hs (HV.out.keep hcB) HK.out HCN.out).mono ?_
  rintro e w2 ⟨hres, hc2⟩
  have hb2 := hb1.ch hc2 (fun h => h)
  have hp2 := hb2.cell (i := 0) (v := .slice A n cp) rfl
  have hcC := hcB.seq hc2
  have hwsz : w.heap.size + 1 ≤ w2.heap.size := hb2.lt
  clear hb1 hp1 hc2 hcB
  rcases hres with ⟨b, N, rfl, hN, hmap⟩ | ⟨b, rfl, hN⟩
  · have HNN := Lib.hid hN
    have HMP := Lib.hid hmap
    have hblt := hmap.lt
    clear hN hmap
    go_wp2_with fail
    refine wp_region_yield (lit5 w2 n (.slice A n cp)) (by kernel_rfl) (by kernel_rfl) (by rfl) (by kernel_rfl) (lit5_stable w2 n _) ?_ ?_
    · intro i o hi a wq hk K hK
      have hq2 : wq.cell? ⟨w.heap.size, 0, none⟩ = some (.slice A n cp) := (World.cell?_of_block (hk.ch.block _ (World.block_lt_of_cell? w2 _ hp2) (fun h => h))).trans hp2
      have ht1 : a.tmps[1]? = some (.pointer (some ⟨w.heap.size, 0, none⟩)) := (hk.old 1 (by decide +kernel)).trans rfl
      have hold := hk.ch.size
      match i, hi with
      | 0, hi | 3, hi | 6, hi =>
        cases hi
        refine yield_run (v := .slice A n cp) (w' := wq) rfl (by go_simp) (hK _ _ rfl (Ch.refl _ _))
      | 1, hi =>
        cases hi
        obtain ⟨v1, h1, h2⟩ := hk.val ⟨0, .data⟩ (by simp) rfl _ 24 rfl rfl
        rw [show v1 = .slice A n cp from h2] at h1
        refine yield_run (v := .int .i64 n) (w' := wq) rfl (by go_simp) (hK _ _ rfl (Ch.refl _ _))
      | 4, hi =>
        cases hi
        obtain ⟨v1, h1, h2⟩ := hk.val ⟨3, .data⟩ (by simp) rfl _ 27 rfl rfl
        rw [show v1 = .slice A n cp from h2] at h1
        refine yield_run (v := .int .i64 n) (w' := wq) rfl (by go_simp) (hK _ _ rfl (Ch.refl _ _))
      | 7, hi =>
        cases hi
        obtain ⟨v1, h1, h2⟩ := hk.val ⟨6, .data⟩ (by simp) rfl _ 30 rfl rfl
        rw [show v1 = .slice A n cp from h2] at h1
        refine yield_run (v := .int .i64 n) (w' := wq) rfl (by go_simp) (hK _ _ rfl (Ch.refl _ _))
      | 2, hi =>
        cases hi
        have hmm := @run_makeMap Tryd.prog
        refine yield_run (v := .map (some wq.heap.size)) (w' := wq.alloc (.map #[] 0)) rfl (by go_simp) (hK _ _ ⟨_, rfl, hold, IMap.made _ _ _⟩ ((Ch.refl _ _).alloc _))
      | 5, hi =>
        cases hi
        obtain ⟨v1, h1, h2⟩ := hk.val ⟨4, .data⟩ (by simp) rfl _ 28 rfl rfl
        have ht := eval_of h1
        rw [show v1 = .int .i64 n from h2] at ht
        obtain ⟨ie, hi1, hi2, hi3, hi4⟩ := elem_ints.get
        refine wpList_make_full wq rfl _ _ 83 rfl w2.heap.size 35 ie _ 1 elem_ints.under hi1 hi2 hi3 .i64 .i64 n n n ht ht rfl rfl (by rw [hi4]; omega) (by unfold maxLen; omega) hold (fun w' r1 r2 => ?_)
        exact hK _ _ ⟨_, _, rfl, by rw [show (Value.slice none 0 0).cells = #[.slice none 0 0] from rfl, Nat.mul_one, toList_madeCells_one] at r1; exact r1⟩ (ch_of_grown_none2 r2)
      | 8, hi =>
        cases hi
        obtain ⟨v1, h1, h2⟩ := hk.val ⟨7, .data⟩ (by simp) rfl _ 31 rfl rfl
        have ht := eval_of h1
        rw [show v1 = .int .i64 n from h2] at ht
        obtain ⟨ie, hi1, hi2, hi3, hi4⟩ := elem_reads.get
        refine wpList_make_full wq rfl _ _ 108 rfl w2.heap.size 144 ie _ 1 elem_reads.under hi1 hi2 hi3 .i64 .i64 n n n ht ht rfl rfl (by rw [hi4]; omega) (by unfold maxLen; omega) hold (fun w' r1 r2 => ?_)
        exact hK _ _ ⟨_, _, rfl, by rw [show (Value.slice none 0 0).cells = #[.slice none 0 0] from rfl, Nat.mul_one, toList_madeCells_one] at r1; exact r1⟩ (ch_of_grown_none2 r2)
      | 9, hi =>
        cases hi
        obtain ⟨v1, h1, h2⟩ := hk.val ⟨1, .data⟩ (by simp) rfl _ 25 rfl rfl
        obtain ⟨v2, h3, gm, h4, h5, h6⟩ := hk.val ⟨2, .data⟩ (by simp) rfl _ 26 rfl rfl
        obtain ⟨v3, h7, A1, c1, h8, h9⟩ := hk.val ⟨5, .data⟩ (by simp) rfl _ 29 rfl rfl
        obtain ⟨v4, h10, A2, c2, h11, h12⟩ := hk.val ⟨8, .data⟩ (by simp) rfl _ 32 rfl rfl
        subst h4 h8 h11
        have e1 := eval_of h1
        rw [show v1 = .int .i64 n from h2] at e1
        have e2 := eval_of h3
        have e3 := eval_of h7
        have e4 := eval_of h10
        have hbu := run_build wq 110 _ _ (ordC_built n gm n c1 n c2 A1 A2)
        refine yield_run (w' := wq) rfl ?_ (hK _ _ ⟨gm, A1, c1, A2, c2, rfl, h5, h6, h9, h12⟩ (Ch.refl _ _))
        simp only [execOp, List.map_toArray, List.map_cons, List.map_nil, e1, e2, e3, e4, show a.eval (.const (.bool true)) = .bool true from rfl]
        rw [Sem.run_bind]
        show (Sem.run _ (Instr.build 110 _) wq).andThen _ = _
        rw [show (Instr.build 110 _).run Tryd.prog wq = _ from hbu]
        rfl
      | 10, hi =>
        cases hi
        obtain ⟨v1, h1, gm, A1, c1, A2, c2, h2, h3, h4, h5, h6⟩ := hk.val ⟨9, .data⟩ (by simp) rfl _ 33 rfl rfl
        subst h2
        have e1 := eval_of h1
        obtain ⟨C, hC⟩ : ∃ C, ordC n (fun _ => 0) (fun _ => 0) (fun _ => 0) (.map (some gm)) (.slice A1 n c1) (.slice A2 n c2) true = C := ⟨_, rfl⟩
        have HCC := Lib.hid hC
        have hcs : C.size = 197 := by rw [← hC]; exact arrOf_size _ _
        rw [hC] at h1
        clear hC e1
        have hca : Ch nob wq (wq.alloc (.cells C 110)) := (Ch.refl _ _).alloc _
        refine yield_run (v := .pointer (some ⟨wq.heap.size, 0, none⟩)) (w' := wq.alloc (.cells C 110)) rfl ?_ (hK _ _ ⟨_, gm, A1, c1, A2, c2, rfl, hold, by rw [HCC.out]; exact Blk.new _ _ _, h3, h4.keep hca, row_keep h5 hca, row_keep h6 hca⟩ hca)
        go_simp
      | 11, hi =>
        cases hi
        obtain ⟨v1, h1, h2⟩ := hk.val ⟨10, .data⟩ (by simp) rfl _ 34 rfl rfl
        have e1 := eval_of h1
        refine yield_run (v := v1) (w' := wq) rfl ?_ (hK _ _ h2 (Ch.refl _ _))
        simp only [execOp, e1]
        rfl
      | i + 12, hi => simp at hi
    · intro vals w3 hv3 hc3
      obtain ⟨go, gm, A1, c1, A2, c2, ho1, ho2, ho3, ho4, ho5, ho6, ho7⟩ := hv3 11 _ 7 rfl rfl
      have HO := Lib.hid (ords_made ho2 ho3 ho4 ho5 ho6 ho7)
      simp only [putAll, Act.put, List.setIfInBounds_toArray, List.set_cons_succ, List.set_cons_zero, ho1]
      clear hv3 ho1 ho2 ho3 ho4 ho5 ho6 ho7
      have hbx := Lib.hid (hb2.ch hc3 (fun h => h))
      have hp3 := hbx.out.cell (i := 0) (v := .slice A n cp) rfl
      have hcD := hcC.seq hc3
      have hmp := Lib.hid (HMP.out.keep hc3)
      clear hb2 hp2 hcC hc3 HMP
      have hgo : w.heap.size + 1 ≤ go := by have := HO.out.ge.1; omega
      have HPS := Lib.hid (pairs_session w3 (.slice A n cp) hs w.heap.size (sesB hs) (HV.out.keep hcD) (by rw [HN.out]; exact hn64) (fun w1 i k hc hi hk => ahead_session w1 _ hs _ i k ((HV.out.keep hcD).keep hc) ((hbx.out.ch hc (fun h => h)).cell (i := 0) rfl) hi hk))
      go_wp2_with fail
      refine HPS.out.mono ?_
      rintro e w4 ⟨rfl, hcE⟩
      have hrl := rel_len (pairsR (sesB hs) hs.length)
      have hrz := relArr_size (pairsR (sesB hs) hs.length)
      have hra := relArr_cells (pairsR (sesB hs) hs.length)
      have HO4 := HO.out.keep hcE
      have hth := ord_there HO4.blk 1 64 (by omega)
      have hst := HO4.blk.setCells (o := 1) (vs := (relArr (pairsR (sesB hs) hs.length)).toList)
      rw [ordC_session] at hst
      have HO5 := Lib.hid (HO4.obj (Ch.setCells (Ch.refl _ _)) hst)
      obtain ⟨SA, hSA⟩ : ∃ SA, relArr (pairsR (sesB hs) hs.length) = SA := ⟨_, rfl⟩
      rw [hSA] at hrz hra HO5 ⊢
      have hcF : Ch nob w (w4.setCells go 1 SA.toList) := (hcD.seq hcE).fresh (Ch.setCells (Ch.refl _ _)) (by omega)
      have hbx5 := Lib.hid ((hbx.out.ch hcE (fun h => h)).ch (Ch.setCells (g := go) (vs := SA.toList) (o := 1) (Ch.refl _ _)) (fun h => by have h' : w.heap.size = go := h; omega))
      have hmpn := blk_map_ne HO4.blk (hmp.out.keep hcE)
      have hmp5 := Lib.hid ((hmp.out.keep hcE).ch (Ch.setCells (g := go) (vs := SA.toList) (o := 1) (Ch.refl _ _)) (fun h => hmpn (show b = go from h).symm))
      have hp5 := hbx5.out.cell (i := 0) (v := .slice A n cp) rfl
      clear HO4 hst HPS hrl hSA hmpn hp3 hbx hcD hcE hmp HO
      go_wp2_with (refine wpList_store_mid rfl 40 (.tmp 40) (.tmp 38) rfl go 1 SA rfl rfl (by rw [hrz]; exact hth) (by rw [hrz]; kernel_rfl) hra ?_)
      obtain ⟨w5, hw5⟩ : ∃ w5, w4.setCells go 1 SA.toList = w5 := ⟨_, rfl⟩
      rw [hw5] at HO5 hcF hbx5 hmp5 hp5 ⊢
      clear hw5 hth
      have HPT := Lib.hid (pairs_time w5 (.slice A n cp) hs w.heap.size (timeB hs) (HV.out.keep hcF) (by rw [HN.out]; exact hn64) (fun w1 i k hc hi hk => ahead_time w1 _ hs _ i k ((HV.out.keep hcF).keep hc) ((hbx5.out.ch hc (fun h => h)).cell (i := 0) rfl) hi hk))
      refine HPT.out.mono ?_
      rintro e w6 ⟨rfl, hcE⟩
      have hrz6 := relArr_size (pairsR (timeB hs) hs.length)
      have hra6 := relArr_cells (pairsR (timeB hs) hs.length)
      have HO6 := HO5.out.keep hcE
      have hth := ord_there HO6.blk 65 64 (by omega)
      have hst := HO6.blk.setCells (o := 65) (vs := (relArr (pairsR (timeB hs) hs.length)).toList)
      rw [ordC_time] at hst
      have HO7 := Lib.hid (HO6.obj (Ch.setCells (Ch.refl _ _)) hst)
      obtain ⟨TA, hTA⟩ : ∃ TA, relArr (pairsR (timeB hs) hs.length) = TA := ⟨_, rfl⟩
      rw [hTA] at hrz6 hra6 HO7 ⊢
      have hcG : Ch nob w (w6.setCells go 65 TA.toList) := (hcF.seq hcE).fresh (Ch.setCells (Ch.refl _ _)) (by omega)
      have hbx7 := Lib.hid ((hbx5.out.ch hcE (fun h => h)).ch (Ch.setCells (g := go) (vs := TA.toList) (o := 65) (Ch.refl _ _)) (fun h => by have h' : w.heap.size = go := h; omega))
      have hmpn := blk_map_ne HO6.blk (hmp5.out.keep hcE)
      have hmp7 := Lib.hid ((hmp5.out.keep hcE).ch (Ch.setCells (g := go) (vs := TA.toList) (o := 65) (Ch.refl _ _)) (fun h => hmpn (show b = go from h).symm))
      have hp7 := hbx7.out.cell (i := 0) (v := .slice A n cp) rfl
      clear HO6 hst HPT hTA hmpn hp5 hbx5 hcF hcE hmp5 HO5 hrz hra
      go_wp2_with (refine wpList_store_mid rfl 40 (.tmp 46) (.tmp 44) rfl go 65 TA rfl rfl (by rw [hrz6]; exact hth) (by rw [hrz6]; kernel_rfl) hra6 ?_)
      obtain ⟨w8, hw8⟩ : ∃ w8, w6.setCells go 65 TA.toList = w8 := ⟨_, rfl⟩
      rw [hw8] at HO7 hcG hbx7 hmp7 hp7 ⊢
      clear hw8 hth hrz6 hra6
      have HO8 := Lib.hid (show Ords w8 w2.heap.size go gm 0 n (pairsR (sesB hs) hs.length) (pairsR (timeB hs) hs.length) (fun _ => 0) (wF hs 0) A1 c1 A2 c2 (fun _ => .slice none 0 0) (fun _ => .slice none 0 0) (kTo hs 0 0) (fun _ => []) true from by rw [kTo_zero]; exact HO7.out)
      clear HO7 hp7
      obtain ⟨Sr, hSr⟩ : ∃ Sr, pairsR (sesB hs) hs.length = Sr := ⟨_, rfl⟩
      obtain ⟨Tr, hTr⟩ : ∃ Tr, pairsR (timeB hs) hs.length = Tr := ⟨_, rfl⟩
      rw [hSr, hTr] at HO8
      have HSR := Lib.hid hSr
      have HTR := Lib.hid hTr
      clear hSr hTr
      go_loopw [49] (fun x wr => ∃ (i c : Nat) (KV : Nat → Value), x = .int .i64 i ∧ i ≤ n ∧ c ≤ 64 * i ∧ Hid (Ords wr w2.heap.size go gm c n Sr Tr (fun _ => 0) (wF hs i) A1 c1 A2 c2 KV (fun _ => .slice none 0 0) (kTo hs i 0) (fun _ => []) true) ∧ Hid (Blk wr w.heap.size #[.slice A n cp] 22) ∧ Hid (IMap Tryd.prog 3 wr b (wrT hs hs.length) (wmF N)) ∧ Ch nob w wr) (fun x _ => n - (intOf x).toNat)
      case atStart => exact ⟨0, 0, _, rfl, Nat.zero_le _, by omega, HO8, hbx7, hmp7, hcG⟩
      case round =>
        clear HO8 hbx7 hmp7 hcG
        obtain ⟨i, c, KV, rfl, hi, hci, ho, hbx, hmp, hc⟩ := hrel
        by_cases hlt : i < n
        · have hd : decide ((i : Int) < (n : Int)) = true := decide_eq_true (by omega)
          obtain ⟨ad, u, rfl, hx0, hx1, hx2, hx3, hu⟩ := HV.out.both hc i (by rw [HN.out]; exact hlt)
          have hok := (HK.out i (by rw [HN.out]; exact hlt)).1
          have hk64 := keys64_of HMY.out (i := i) (by rw [HN.out]; exact hlt)
          have hle := countTo_mono hs (show i + 1 ≤ hs.length by rw [HN.out]; omega)
          have hcs : countTo hs (i + 1) = countTo hs i + (hs.getD i txrZero).ops.length := rfl
          have hwo : wOf hs i = writesR (hs.getD i txrZero).ops 64 := rfl
          obtain ⟨T, hT⟩ : ∃ T, hs.getD i txrZero = T := ⟨_, rfl⟩
          rw [hT] at hx0 hx1 hx2 hu hok hk64 hcs hwo
          obtain ⟨ts, tb, tc, xs⟩ := T
          dsimp only at hx0 hx1 hx2 hu hok hk64 hcs hwo
          obtain ⟨Ax, cx, rfl⟩ := hu.shape
          have hxl : xs.length ≤ 1000000 := by have := HCN.out; omega
          have HWR := Lib.hid (fun (wr' : World) (hcc : Ch nob w wr') => writes wr' (.slice Ax xs.length cx) xs ts tb tc (hu.keep hcc) hok.1 hxl)
          have HKX := Lib.hid (And.intro hk64 hwo)
          have HOK := Lib.hid hok.1
          have hc0sz := Lib.hid (show ∀ o, w.heap.size ≤ (wr.alloc o).heap.size from fun o => by have := hc.size; simp; omega)
          obtain ⟨l, hl⟩ : ∃ l, xs.length = l := ⟨_, rfl⟩
          have HL := Lib.hid hl
          rw [hl] at hx3 HWR
          have hcT : Ch nob wr (wr.alloc (.cells #[.int .i64 ts, .int .i64 tb, .int .i64 tc, .slice Ax l cx] 118)) := (Ch.refl _ _).alloc _
          have hcT2 := hc.seq hcT
          have ho2 := Lib.hid (ho.out.keep hcT)
          have hbx2 := Lib.hid (hbx.out.ch hcT (fun h => h))
          have hmp2 := Lib.hid (hmp.out.keep hcT)
          clear hT hu hok hk64 hle hcs hwo hxl hl ho hbx hmp hc hcT
          go_wp2_with fail
          refine (HWR.out _ hcT2).mono ?_
          rintro e w10 ⟨vy, ys, rfl, hoy, hys, hym, hcY⟩
          have hyw : wOf hs i = ys := by rw [HKX.out.2]; exact (writes_is HKX.out.1 hys (fun x => by rw [HL.out]; exact hym x)).symm
          obtain ⟨Ay, cy, hvy⟩ := hoy.opl.shape
          have hyl : ys.length ≤ 64 := by rw [← hyw]; exact writesR_len _ _
          obtain ⟨m, hm⟩ : ∃ m, ys.length = m := ⟨_, rfl⟩
          rw [hm] at hvy hyl
          subst hvy
          have HYM := Lib.hid hm
          have HYW := Lib.hid hyw
          have HY := Lib.hid (show OwnO w10 w.heap.size 121 (.slice Ay m cy) ys from ownsRow_base hoy (hc0sz.out _))
          have hcY2 := hcT2.seq hcY
          have HYK := Lib.hid (fun (j : Nat) (hj : j < m) => (show (Lit.int .i64 (ys.getD j opZero).key).wf = true from by
            have hmem : ys.getD j opZero ∈ ys := by
              rw [List.getD_eq_getElem?_getD, List.getElem?_eq_getElem (by rw [HYM.out]; exact hj)]; exact List.getElem_mem _
            obtain ⟨k2, h1, h2⟩ := lastW_in ((hym _).1 hmem)
            have h3 := HOK.out k2 (by rw [HL.out]; exact h1)
            rw [h2] at h3
            exact h3))
          have ho3 := Lib.hid (show Ords w10 w2.heap.size go gm c n Sr Tr (fun _ => 0) (wTo i ys (wF hs i) 0) A1 c1 A2 c2 KV (fun _ => .slice none 0 0) (kTo hs i 0) (fun _ => []) true from ho2.out.keep hcY)
          have hbx3 := Lib.hid (hbx2.out.ch hcY (fun h => h))
          have hmp3 := Lib.hid (hmp2.out.keep hcY)
          clear hoy hys hym hyw hm hcY hcT2 ho2 hbx2 hmp2 HWR hx0 hx1 hx2 hx3
          go_wp2_with fail
          go_loopw [57] (fun x wr => ∃ (j c3 : Nat) (KV : Nat → Value), x = .int .i64 j ∧ j ≤ m ∧ c3 ≤ c + j ∧ Hid (Ords wr w2.heap.size go gm c3 n Sr Tr (fun _ => 0) (wTo i ys (wF hs i) j) A1 c1 A2 c2 KV (fun _ => .slice none 0 0) (kTo hs i j) (fun _ => []) true) ∧ Hid (Blk wr w.heap.size #[.slice (some ad) n cp] 22) ∧ Hid (IMap Tryd.prog 3 wr b (wrT hs hs.length) (wmF N)) ∧ Hid (OwnO wr w.heap.size 121 (.slice Ay m cy) ys) ∧ Ch nob w wr) (fun x _ => m - (intOf x).toNat)
          case atStart => exact ⟨0, c, KV, rfl, Nat.zero_le _, by omega, ho3, hbx3, hmp3, HY, hcY2⟩
          case round =>
            clear ho3 hbx3 hmp3 HY hcY2
            obtain ⟨j, c3, KV, rfl, hj, hcj, ho, hbx, hmp, hy, hc⟩ := hrel
            by_cases hlt2 : j < m
            · have hd2 : decide ((j : Int) < (m : Int)) = true := decide_eq_true (by omega)
--BODY
              obtain ⟨ady, rfl, hy0, hy1, hy2⟩ := hy.out.opl.at.2.2 j (by rw [HYM.out]; exact hlt2)
              have hwf := HYK.out j hlt2
              have hwt : wTo i ys (wF hs i) (j + 1) = putN (wTo i ys (wF hs i) j) (ys.getD j opZero).key (withS ((wTo i ys (wF hs i) j (ys.getD j opZero).key).getD 0) (i : Int)) := rfl
              have hsok := wTo_ok (i := i) (ys := ys) (wF_ok hs i) j
              have hkst := kTo_step hs i j (by rw [HYW.out, HYM.out]; exact hlt2)
              rw [HYW.out] at hkst
              obtain ⟨x, hx⟩ : ∃ x, ys.getD j opZero = x := ⟨_, rfl⟩
              rw [hx] at hy0 hy1 hy2 hwf hwt hkst
              obtain ⟨xw, xk, xv⟩ := x
              obtain ⟨f, hf⟩ : ∃ f, wTo i ys (wF hs i) j = f := ⟨_, rfl⟩
              rw [hf] at ho hwt hsok
              have HWT0 := Lib.hid hwt
              have HKS := Lib.hid hkst
              have hcO : Ch nob wr (wr.alloc (.cells #[.bool xw, .int .i64 xk, .int .i64 xv] 121)) := (Ch.refl _ _).alloc _
              have ho4 := Lib.hid (ho.out.keep hcO)
              have hbx4 := Lib.hid (hbx.out.ch hcO (fun h => h))
              have hmp4 := Lib.hid (hmp.out.keep hcO)
              have hy4 := Lib.hid (hy.out.keep hcO)
              have hc4 := hc.seq hcO
              have hnb := Blk.new wr #[.bool xw, .int .i64 xk, .int .i64 xv] 121
              have hmc := ord_map ho4.out.blk
              have hslt := hsok xk
              have hgm := ho4.out.map
              have hget := setF_get f xk
              obtain ⟨s, hs2⟩ : ∃ s, (f xk).getD 0 = s := ⟨_, rfl⟩
              have HWT := Lib.hid (show wTo i ys (wF hs i) (j + 1) = putN f xk (withS s (i : Int)) from by rw [HWT0.out, ← hs2])
              rw [hs2] at hslt hget
              obtain ⟨wq, hwq⟩ : ∃ wq, wr.alloc (.cells #[.bool xw, .int .i64 xk, .int .i64 xv] 121) = wq := ⟨_, rfl⟩
              obtain ⟨gt, hgt⟩ : ∃ gt, wr.heap.size = gt := ⟨_, rfl⟩
              rw [hwq] at ho4 hbx4 hmp4 hy4 hc4 hnb hmc hgm
              rw [hgt] at hnb
              have hnk := hnb.cell (i := 1) (v := .int .i64 xk) rfl
              have HNB := Lib.hid hnb
              have HRUN := Lib.hid (show ∀ w', (∃ u : Ext wq, w' = u.val) → (Instr.lookup 107 (.map (some gm)) (.int .i64 xk) false).run Tryd.prog w' = .ok (.int .u64 (s : Nat)) w' from by
                rintro _ ⟨u, rfl⟩
                have := ((hgm.keep u.ch).at_ under_int under_mset (zero_set u.val) xk hwf).2
                rw [hget] at this
                exact this)
              have HWS := Lib.hid (fun (u : Ext wq) => ext_of ((with_set s (i : Int) u.val hslt).mono (fun e w' ⟨he, hw⟩ => ⟨he, hw ▸ Ch.refl _ _⟩)))
              have HGM := Lib.hid hgm
              have HWQ := Lib.hid hwq
              have HGT := Lib.hid hgt
              have X0 := fun u : Ext wq => Ext.cell hnk u
              have X1 := fun u : Ext wq => Ext.cell hmc u
              clear hx hwt hkst hf hcO ho hbx hmp hy hc hs2 hsok hwq hgt hget hgm hnk hmc hnb
              go_wp2_with fail
              rw [HWQ.out, HGT.out]
              refine wp_region_ch_tail 15 (by kernel_rfl) (by kernel_rfl) (Ch.refl nob wq) ?_
              simp only [List.take_succ_cons, List.take_zero, List.drop_succ_cons, List.drop_zero]
              repeat (first | (go_big_quiet_want; refine quiet_imap_get 107 _ _ rfl gm xk _ rfl rfl HRUN.out ?_; simp only [Act.put, List.setIfInBounds_toArray, List.set_cons_succ, List.set_cons_zero]; go_big_quiet_on) | go_big_quiet_step (exact HWS.out _))
              refine wpQuiet_nil ?_
              rintro wv ⟨⟨wv, hcq⟩, rfl⟩
              have hgm := HGM.out.keep hcq
              have ho5 := Lib.hid (ho4.out.keep hcq)
              have hbx5 := Lib.hid (hbx4.out.ch hcq (fun h => h))
              have hmp5 := Lib.hid (hmp4.out.keep hcq)
              have hy5 := Lib.hid (hy4.out.keep hcq)
              have hnb5 := Lib.hid (HNB.out.ch hcq (fun h => h))
              have hc5 := hc4.seq hcq
              have hcl : c3 < maxLen := by unfold maxLen; omega
              have hget := setF_get f xk
              clear X0 X1 ho4 hbx4 hmp4 hy4 hc4 hcq HRUN HWS HGM HNB
              obtain ⟨s2, hs2⟩ : ∃ s2, withS s (i : Int) = s2 := ⟨_, rfl⟩
              rw [hs2] at HWT ⊢
              go_wp2_with (at_mapUpdate; refine wpList_imap_put _ rfl _ _ _ 107 rfl 3 38 under_int under_mset _ _ _ rfl hgm hcl _ rfl hwf (.int .u64 (s2 : Nat)) rfl ?_; intro w11 hm11 hc11)
--R15
              have hm12 : IMap Tryd.prog 3 w11 gm (if (setF f xk).isSome then c3 else c3 + 1) (setF (wTo i ys (wF hs i) (j + 1))) := by
                rw [HWT.out, ← setF_put]; exact hm11
              obtain ⟨c4, hc4e⟩ : ∃ c4, (if (setF f xk).isSome then c3 else c3 + 1) = c4 := ⟨_, rfl⟩
              have hc4le : c4 ≤ c + (j + 1) := by rw [← hc4e]; split <;> omega
              rw [hc4e] at hm12
              have HO6 := Lib.hid (ho5.out.put hc11 hm12)
              have hgb : w.heap.size ≠ gm := fun e => by have := HO6.out.ge.2; omega
              have hbx6 := Lib.hid (hbx5.out.ch hc11 (fun e => hgb e))
              have hmp6 := Lib.hid (hmp5.out.ch hc11 (fun e => by have e' : b = gm := e; have := HO6.out.ge.2; omega))
              have hy6 := Lib.hid (hy5.out.off hc11 (fun q hq e => by
                have := row_map_ne hy5.out hgm
                rw [e] at hq
                exact this hq))
              have hnb6 := Lib.hid (hnb5.out.ch hc11 (fun e => blk_map_ne hnb5.out hgm e))
              have hc6 := hc5.fresh hc11 (by have := HO6.out.ge.2; omega)
              clear hm11 hc11 hm12 hc4e hcl hget hgm ho5 hbx5 hmp5 hy5 hnb5 hc5
              obtain ⟨g, hA1⟩ : ∃ g, A1 = some ⟨g, 0, none⟩ := by
                rcases HO6.out.krow.2 with ⟨_, h⟩ | ⟨g, cap, cur, h, _⟩
                · omega
                · simp only [Value.slice.injEq] at h
                  exact ⟨g, h.1⟩
              have HKR := Lib.hid (show w11.ownsRow w2.heap.size 35 1 (.slice (some ⟨g, 0, none⟩) n c1) n ((List.range n).map KV) from by rw [← hA1]; exact HO6.out.krow)
              obtain ⟨a1, ha1⟩ : ∃ a1 : Addr, a1 = ⟨g, 0, none⟩ := ⟨_, rfl⟩
              have HA1 := Lib.hid hA1
              have HAA := Lib.hid ha1
              have hk194 : w11.cell? ⟨go, 194, none⟩ = some (.slice (some a1) n c1) := by rw [ha1, ← hA1]; exact ord_keys HO6.out.blk
              have hkci : w11.cell? (a1.add i) = some (KV i) := by
                rw [ha1, own_add, World.ownsRow.cellAt HKR.out i (by omega), List.getElem?_map, List.getElem?_range hlt]; rfl
              have hkfr : w11.frozen? (a1.add i) = false := by rw [ha1, own_add]; exact World.ownsRow.frozenAt HKR.out i
              have HKV := Lib.hid (HO6.out.kv i hlt)
              obtain ⟨Ak, ck, hkv⟩ := HKV.out.ints.shape
              obtain ⟨lk, hlk⟩ : ∃ lk, (kTo hs i j i).length = lk := ⟨_, rfl⟩
              have hlk64 : lk ≤ 64 := by
                rw [← hlk, kTo_at, List.length_map, List.length_take]
                omega
              rw [hlk] at hkv
              rw [hkv] at hkci
              have HKV2 := Lib.hid (show OwnK .i64 w11 w2.heap.size 3 (.slice Ak lk ck) (kTo hs i j i) from by rw [← hkv]; exact HKV.out)
              have HKE := Lib.hid hkv
              have HLK := Lib.hid hlk
              have hkey := hnb6.out.cell (i := 1) (v := .int .i64 xk) rfl
              have hsz11 := Lib.hid (show w2.heap.size ≤ w11.heap.size from by have := (HO6.out.krow.lt g (by rw [hA1]; rfl)); omega)
              have HST := Lib.hid (show ∀ w', (w11.drew.alloc (.cells #[.int .i64 xk] 3)).grownBy w' (Value.slice Ak lk ck).ownBlock → w'.cell? (a1.add i) = some (.slice Ak lk ck) ∧ w'.frozen? (a1.add i) = false ∧ w'.cell? ⟨go, 194, none⟩ = some (.slice (some a1) n c1) from fun w' hg => by
                have hr := (row_keep HKR.out (((Ch.refl nob w11).drew).alloc (.cells #[.int .i64 xk] 3))).kept hg (.inr (fun e => row_row_ne HKR.out HKV2.out (by decide) g rfl e.symm))
                rw [HAA.out, own_add]
                have hob := ((HO6.out.blk.ch ((Ch.refl nob w11).drew.alloc (.cells #[.int .i64 xk] 3)) (fun h => h)).grown hg (row_blk_ne HKV2.out HO6.out.blk (by decide)))
                refine ⟨?_, World.ownsRow.frozenAt hr i, ?_⟩
                · rw [World.ownsRow.cellAt hr i (by omega), List.getElem?_map, List.getElem?_range hlt, ← HKE.out]; rfl
                · rw [← HA1.out]; exact ord_keys hob)
              have HKW := Lib.hid (show (w11.drew.alloc (.cells #[.int .i64 xk] 3)).ownsRow w2.heap.size 3 1 (.slice Ak lk ck) lk ((kTo hs i j i).map (.int .i64)) from by
                have hkw := HKV2.out.keep (((Ch.refl nob w11).drew).alloc (.cells #[.int .i64 xk] 3))
                unfold OwnK at hkw
                rw [HLK.out] at hkw
                exact hkw)
              clear hA1 ha1 hkv hlk
              have hal : ∀ p v, w11.cell? p = some v → (w11.alloc (.cells #[.int .i64 xk] 3)).cell? p = some v := fun p v h =>
                (World.cell?_of_block (Below.heap_alloc w11 _ _ (World.block_lt_of_cell? w11 _ h))).trans h
              have hk194b := hal _ _ hk194
              have hkcib := hal _ _ hkci
              have hkeyb := hal _ _ hkey
              clear hal
              go_wp2_with fail
              apply leaf_of (fun Av cv w12 => w12.ownsRow w2.heap.size 3 1 (.slice Av (lk + 1) cv) (lk + 1) ((kTo hs i j i).map (.int .i64) ++ [.int .i64 xk]) ∧ (w11.drew.alloc (.cells #[.int .i64 xk] 3)).grownBy w12 (Value.slice Ak lk ck).ownBlock ∧ ∀ b, (Value.slice Av (lk + 1) cv).ownBlock = some b → (Value.slice Ak lk ck).ownBlock = some b ∨ (w11.drew.alloc (.cells #[.int .i64 xk] 3)).heap.size ≤ b)
                (fun Av cv w12 => w12.setCell (a1.add i) (.slice Av (lk + 1) cv))
              · intro LEAF
                go_region_law (first
                  | ((refine step_append_sep (by rfl) (.tmp 87) (.tmp 90) 35 3 (by rfl) (.int .i64 0) 1 8 elem_int (by rfl) (by decide) (by decide) w2.heap.size _ lk _ (by rfl) HKW.out w11.heap.size #[.int .i64 xk] 3 (by rfl) (Blk.new w11.drew _ _) (by rfl) (by intro u hu; simp at hu; subst hu; rfl) (by omega) (by have := hsz11.out; simp; omega) ?_; intro v12 w12 hown12 hg12 hnew12; obtain ⟨Av, cv, hv12⟩ := ownsRow_shape hown12; subst hv12; obtain ⟨hl12, hf12, hk12⟩ := HST.out w12 hg12)))
                all_goals exact LEAF Av cv w12 ⟨hown12, hg12, hnew12⟩
              · rintro Av cv w12 ⟨hR1, hR2, hR3⟩
                have hz : Ch nob w11 (w11.drew.alloc (.cells #[.int .i64 xk] 3)) := ((Ch.refl nob w11).drew).alloc _
                have hadr : a1.add i = ⟨g, i, none⟩ := by rw [HAA.out, own_add]
                have hR2k : (w11.drew.alloc (.cells #[.int .i64 xk] 3)).grownBy w12 (KV i).ownBlock := by rw [HKE.out]; exact hR2
                have hu : OwnK .i64 w12 w2.heap.size 3 (.slice Av (lk + 1) cv) (kTo hs i j i ++ [xk]) := by
                  unfold OwnK
                  rw [List.length_append, List.map_append, HLK.out]
                  exact hR1
                have HO6g : Ords w11 w2.heap.size go gm c4 n Sr Tr (fun _ => 0) (wTo i ys (wF hs i) (j + 1)) (some ⟨g, 0, none⟩) c1 A2 c2 KV (fun _ => .slice none 0 0) (kTo hs i j) (fun _ => []) true := by rw [← HA1.out]; exact HO6.out
                have HO7 := (HO6g.keep hz).kpush hlt hR2k hu (fun q hq => by rw [HKE.out]; exact hR3 q hq) rfl
                rw [HKS.out, ← HA1.out, ← hadr] at HO7
                have HO7h := Lib.hid HO7
                have hkr12 := (row_keep HKR.out hz).kept hR2 (.inr (fun e => row_row_ne HKR.out HKV2.out (by decide) g rfl e.symm))
                have hcs : Ch (· = g) w12 (w12.setCell (a1.add i) (.slice Av (lk + 1) cv)) := (Ch.refl _ _).setCell _ _ (fun _ => by rw [hadr])
                have hb12 := (hbx6.out.ch hz (fun h => h)).grown hR2 (row_blk_ne HKV2.out hbx6.out (by decide))
                have hbx7 := Lib.hid (hb12.ch hcs (fun e => row_blk_ne hkr12 hb12 (by decide) (by show some g = _; rw [show w.heap.size = g from e])))
                have hm12 := (hmp6.out.keep hz).ch (Ch.toGrown hR2) (row_map_ne HKV2.out hmp6.out)
                have hmp7 := Lib.hid (hm12.ch hcs (fun e => row_map_ne hkr12 hm12 (by show some g = _; rw [show b = g from e])))
                have hyz : (w11.drew.alloc (.cells #[.int .i64 xk] 3)).ownsRow w.heap.size 121 3 (.slice (some ady) m cy) ys.length (flatO ys) := row_keep hy6.out hz
                have hy12 := hyz.kept hR2 (by
                  cases hq : (Value.slice Ak lk ck).ownBlock with
                  | none => exact .inr (by simp [Value.ownBlock])
                  | some q => exact .inr (row_row_ne HKV2.out hy6.out (by decide) q hq))
                have hy7 := Lib.hid (show OwnO (w12.setCell (a1.add i) (.slice Av (lk + 1) cv)) w.heap.size 121 (.slice (some ady) m cy) ys from row_other hy12 hcs (row_row_ne hkr12 hy12 (by decide) g rfl))
                have hgw : w.heap.size ≤ g := by have := (HKR.out.lt g rfl).1; omega
                have hc7 := ((hc6.seq hz).grown_own hR2 (fun q hq => by have := (HKV2.out.ge q hq).1; omega)).fresh hcs hgw
                clear HO7 hkr12 hcs hb12 hm12 hyz hy12 hz hadr hR1 hR2 hR3 hR2k hu HO6g
                go_wp2_with fail
                go_roundw
                case rel => exact ⟨j + 1, c4, _, by go_num, by omega, hc4le, HO7h, hbx7, hmp7, hy7, hc7⟩
                case measure => simp [intOf]; omega
--R15END
--BODYEND
            · have hd2 : decide ((j : Int) < (m : Int)) = false := decide_eq_false (by omega)
              obtain rfl : m = j := by omega
              have hfe : wTo i ys (wF hs i) m = wF hs (i + 1) := by
                show _ = wTo i (wOf hs i) (wF hs i) (wOf hs i).length
                rw [HYW.out, HYM.out]
              have hke := kTo_next hs i
              rw [HYW.out, HYM.out] at hke
              rw [hfe, hke] at ho
              go_wp2_with fail
              go_roundw
              case rel => exact ⟨i + 1, c3, KV, by go_num, by omega, by omega, ho, hbx, hmp, hc⟩
              case measure => simp [intOf]; omega
        · have hd : decide ((i : Int) < (n : Int)) = false := decide_eq_false (by omega)
          obtain rfl : n = i := by omega
          have hpb := hbx.out.cell (i := 0) (v := .slice A n cp) rfl
          have ho0 := Lib.hid (show Ords wr w2.heap.size go gm c n Sr Tr (frAll N hs 0) (wF hs n) A1 c1 A2 c2 KV (fun _ => .slice none 0 0) (kTo hs n 0) (rsAll N hs 0) (sdAll N hs 0) from by
            rw [show rsAll N hs 0 = fun _ => [] from by funext a; unfold rsAll; rw [if_neg (by omega)]]
            exact ho.out)
          have hblt2 := Lib.hid (show b < w2.heap.size from hblt)
          clear ho hbx
          go_wp2_with fail
          go_loopw [97] (fun x wr => ∃ (i : Nat) (RV : Nat → Value), x = .int .i64 i ∧ i ≤ n ∧ Hid (Ords wr w2.heap.size go gm c n Sr Tr (frAll N hs i) (wF hs n) A1 c1 A2 c2 KV RV (kTo hs n 0) (rsAll N hs i) (sdAll N hs i)) ∧ Hid (IMap Tryd.prog 3 wr b (wrT hs hs.length) (wmF N)) ∧ Ch nob w wr) (fun x _ => n - (intOf x).toNat)
          case atStart => exact ⟨0, _, rfl, Nat.zero_le _, ho0, hmp, hc⟩
          case round =>
            clear ho0 hmp hc hpb
            obtain ⟨i, RV, rfl, hi, ho, hmp, hc⟩ := hrel
            by_cases hlt2 : i < n
            · have hd2 : decide ((i : Int) < (n : Int)) = true := decide_eq_true (by omega)
              obtain ⟨ad, u, rfl, hx0, hx1, hx2, hx3, hu⟩ := HV.out.both hc i (by rw [HN.out]; exact hlt2)
              have hok := (HK.out i (by rw [HN.out]; exact hlt2)).1
              have hk64 := keys64_of HMY.out (i := i) (by rw [HN.out]; exact hlt2)
              have hxl : (hs.getD i txrZero).ops.length ≤ 1000 := by
                have h1 := all_iff.1 ((may_iff hs).1 HMY.out).1 i (by rw [HN.out]; exact hlt2)
                unfold txrOkB txnOk headOk at h1
                simp only [Bool.and_eq_true, decide_eq_true_eq] at h1
                omega
              have hrd := rsAll_next N hs i
              have hfd : frAll N hs (i + 1) = frTo N i (rOf hs i) (frAll N hs i) (rOf hs i).length := rfl
              have hsd : sdAll N hs (i + 1) = (sdTo N i (rOf hs i) (steadyB (hs.getD i txrZero).ops) (rOf hs i).length && sdAll N hs i) := rfl
              have hro : rOf hs i = readsR (hs.getD i txrZero).ops 64 := rfl
              obtain ⟨T, hT⟩ : ∃ T, hs.getD i txrZero = T := ⟨_, rfl⟩
              rw [hT] at hx0 hx1 hx2 hu hok hk64 hxl hro hsd
              obtain ⟨ts, tb, tc, xs⟩ := T
              dsimp only at hx0 hx1 hx2 hu hok hk64 hxl hro hsd
              obtain ⟨Ax, cx, rfl⟩ := hu.shape
              have hcT : Ch nob wr (wr.alloc (.cells #[.int .i64 ts, .int .i64 tb, .int .i64 tc, .slice Ax xs.length cx] 118)) := (Ch.refl _ _).alloc _
              have hcT2 := hc.seq hcT
              have hszb : w2.heap.size ≤ (wr.alloc (.cells #[.int .i64 ts, .int .i64 tb, .int .i64 tc, .slice Ax xs.length cx] 118)).heap.size := by
                have := ho.out.ge.1; have := ho.out.blk.lt; simp; omega
              have HRD0 := order_reads _ _ _ _ _ _ _ _ _ _ _ _ _ _ _ _ _ _ _ (ho.out.keep hcT) i hlt2 hn64 (.slice Ax xs.length cx) xs ts tb tc (hu.keep hcT2) hok hk64 hxl b _ N (hmp.out.keep hcT) hblt2.out (frAll_ok N hs i) (by unfold rsAll; rw [if_neg (by omega)]) hszb
              rw [← hro, ← hfd, hrd] at HRD0
              obtain ⟨l, hl⟩ : ∃ l, xs.length = l := ⟨_, rfl⟩
              obtain ⟨sq, hsq⟩ : ∃ sq, sdTo N i (rOf hs i) (steadyB xs) (rOf hs i).length = sq := ⟨_, rfl⟩
              obtain ⟨sp, hsp⟩ : ∃ sp, sdAll N hs i = sp := ⟨_, rfl⟩
              rw [hsq] at HRD0 hsd
              rw [hsp] at HRD0 hsd
              rw [hl] at hx3 HRD0 hcT2
              have HRD := Lib.hid HRD0
              have HSD := Lib.hid hsd
              have hmpT := Lib.hid (hmp.out.keep hcT)
              rw [hl] at hmpT
              clear hT hu hok hk64 hxl hrd hfd hsd hro hcT hl hsq hsp HRD0 ho hmp hc hszb
              go_wp2_with fail
              refine HRD.out.mono ?_
              rintro e w20 ⟨rfl, ⟨RV2, ho20⟩, hcR⟩
              have HO20 := Lib.hid ho20
              have hc20 := hcT2.trans hcR (fun k hk e => by have : w2.heap.size ≤ k := e; omega)
              have hmp20 := Lib.hid (hmpT.out.ch hcR (fun e => by have : w2.heap.size ≤ b := e; have := hblt2.out; omega))
              have hsnd := ord_sound HO20.out.blk
              have hfrz := HO20.out.blk.free 196
              have hset := fun q : Bool => HO20.out.blk.set 196 (.bool q)
              have HSET := Lib.hid hset
              clear ho20 hcT2 hmpT HRD hcR hset
              have fin : ∀ q : Bool, q = (sq && sp) → ∃ RV3, Hid (Ords (w20.setCell ⟨go, 196, none⟩ (.bool q)) w2.heap.size go gm c n Sr Tr (frAll N hs (i + 1)) (wF hs n) A1 c1 A2 c2 KV RV3 (kTo hs n 0) (rsAll N hs (i + 1)) (sdAll N hs (i + 1))) ∧ Hid (IMap Tryd.prog 3 (w20.setCell ⟨go, 196, none⟩ (.bool q)) b (wrT hs hs.length) (wmF N)) ∧ Ch nob w (w20.setCell ⟨go, 196, none⟩ (.bool q)) := fun q hq => by
                have hb20 := HSET.out q
                rw [ordC_sound] at hb20
                have hcs : Ch (· = go) w20 (w20.setCell ⟨go, 196, none⟩ (.bool q)) := (Ch.refl _ _).setCell _ _ (fun _ => rfl)
                refine ⟨RV2, Lib.hid ?_, Lib.hid (hmp20.out.ch hcs (fun e => blk_map_ne HO20.out.blk hmp20.out (show b = go from e).symm)), hc20.fresh hcs (by have := HO20.out.ge.1; omega)⟩
                have h := HO20.out.obj hcs hb20
                rw [HSD.out, ← hq]
                exact h
              have FIN := Lib.hid fin
              clear fin
              cases sq with
              | false =>
                go_wp2_with fail
                obtain ⟨RV3, k1, k2, k3⟩ := FIN.out false rfl
                clear FIN
                go_roundw
                case rel => exact ⟨i + 1, RV3, by go_num, by omega, k1, k2, k3⟩
                case measure => simp [intOf]; omega
              | true =>
                go_wp2_with fail
                obtain ⟨RV3, k1, k2, k3⟩ := FIN.out sp rfl
                clear FIN
                go_roundw
                case rel => exact ⟨i + 1, RV3, by go_num, by omega, k1, k2, k3⟩
                case measure => simp [intOf]; omega
            · have hd2 : decide ((i : Int) < (n : Int)) = false := decide_eq_false (by omega)
              obtain rfl : n = i := by omega
              have HRES := Lib.hid (show Ords wr w2.heap.size go gm c hs.length (pairsR (sesB hs) hs.length) (pairsR (timeB hs) hs.length) (frAll N hs hs.length) (wF hs hs.length) A1 c1 A2 c2 KV RV (kTo hs hs.length 0) (rsAll N hs hs.length) (sdAll N hs hs.length) from by
                rw [HSR.out, HTR.out, HN.out]; exact ho.out)
              go_wp2_with fail
              go_ret2
              exact ⟨w2.heap.size, go, gm, c, A1, c1, A2, c2, KV, RV, N, rfl, HNN.out, HRES.out, by omega, hc⟩
  · exfalso
    obtain ⟨M, hM2⟩ := hist_some.2 (fun t q ht hq hw => by
      have := ((may_iff hs).1 HMY.out).2.2 t ht q hq
      unfold opFine at this
      rw [if_pos hw] at this
      exact beq_iff_eq.1 this)
    rw [hN] at hM2
    cases hM2
end Go.Proofs.YtlhfpnkfapghoaaDoor
end
