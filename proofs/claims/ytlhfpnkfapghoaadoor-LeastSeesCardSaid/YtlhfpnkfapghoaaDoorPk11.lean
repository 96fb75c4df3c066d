/- Texts of this claim, merged: Law11c. -/
import Derived.Test.YtlhfpnkfapghoaaDoorPk4
import Derived.Test.YtlhfpnkfapghoaaDoorPk10
section
/- The law LeastSees: of any history, in any order, whatever is asked, the least that must be seen is the document's. No condition but each theorem's own. -/
set_option linter.unusedVariables false
set_option linter.unusedSimpArgs false
namespace Go.Proofs.YtlhfpnkfapghoaaDoor
open Go.RowKit Go.Maps
attribute [local go_sem ↓] zero_rel

theorem doc_okB {hs : List Txr} (h : docH hs = 0) : bigB hs = false ∧ mayH hs = true := by
  unfold docH at h
  cases h1 : bigB hs with
  | true => rw [h1] at h; simp at h
  | false =>
    rw [h1] at h
    cases h2 : mayH hs with
    | true => exact ⟨rfl, rfl⟩
    | false => rw [h2] at h; simp at h
theorem small_ok {hs : List Txr} (h : smallZ hs = 1) : hs.length ≤ 7 ∧ bigB hs = false ∧ mayH hs = true ∧ countTo hs hs.length ≤ 1024 := by
  unfold smallZ at h
  split at h
  · cases h
  · rename_i hn
    rw [Bool.or_eq_true, not_or, decide_eq_true_iff, bne_iff_ne, ne_eq, Decidable.not_not] at hn
    obtain ⟨hb, hm⟩ := doc_okB hn.2
    refine ⟨by omega, hb, hm, ?_⟩
    unfold bigB at hb
    rw [Bool.or_eq_false_iff, decide_eq_false_iff_not, decide_eq_false_iff_not] at hb
    omega
theorem small_cases (hs : List Txr) : smallZ hs = 0 ∨ smallZ hs = 1 := by unfold smallZ; split; exact .inl rfl; exact .inr rfl
/-- What the document tells of a history that may be. -/
theorem docF_of {w : World} {v : Value} {hs : List Txr} {M : WM} (hv : Txns w v hs) (hn : hs.length ≤ 64) (hc : countTo hs hs.length ≤ 1024) (hm : mayH hs = true) (hM : histF hs hs.length = some M) : DocF w v hs.length (fromB M hs) (sesB hs) (timeB hs) (rivB hs) :=
  ⟨hv.shape, hn, fun i k _ hk u hu => from_ref08 u v hs i k M (hv.keep hu) (by omega) hm hM hk, fun i k hi hk u hu => session_ref08 u v hs i k (hv.keep hu) hi hk, fun i k hi hk u hu => time_ref08 u v hs i k (hv.keep hu) hi hk,
    fun i k hi hk u hu => rivals_ref08 u v hs i k (hv.keep hu) hi hk (fun a ha => by have := may_len hm ha; omega)⟩
theorem wt_is {x y : Bool} (h : x = y) : Value.bool y = Value.bool x := by rw [h]
theorem sees_has (V : Nat → Nat) (i k : Nat) (hi : i < 64) (hk : k < 64) : hasS (seesR V (k : Int)) (i : Int) = hasR V (i : Int) (k : Int) := by
  unfold seesR
  rw [if_pos (by omega), hasS_nat _ _ hi, hasR_nat _ _ _ hi hk, Bool.eq_iff_iff]
  exact turned_bit V k i hk hi
theorem six63 (a : Int) : bits .and .i64 a 63 = ((six a : Nat) : Int) := by
  have h := and_small a 63 (by omega)
  rw [show ((63 : Nat) : Int) = 63 from rfl] at h
  rw [h]
  have : six a &&& 63 = six a := by
    have h1 := Nat.and_two_pow_sub_one_eq_mod (six a) 6
    have h2 := six_lt a
    rw [show (2 : Nat) ^ 6 - 1 = 63 from rfl] at h1
    rw [h1]; omega
  rw [this]
theorem ask_one (z : Nat) (hz : z < 64) : (bits .and .i64 (z : Int) 1 == 1) = hasI z 1 := by
  have h := and_small (z : Int) 1 (by omega)
  rw [show ((1 : Nat) : Int) = 1 from rfl] at h
  rw [h, six_nat z hz]
  have key : ∀ z : Fin 64, (((z.val &&& 1 : Nat) : Int) == 1) = hasI z.val 1 := by decide +kernel
  exact key ⟨z, hz⟩
theorem ask_32 (z : Nat) (hz : z < 64) : (bits .and .i64 (z : Int) 32 != 0) = hasI z 32 := by
  have := ask_has (z : Int) 32 (by omega)
  rw [six_nat z hz] at this
  exact this
/-- The region that draws: the least relation is found, and lies in a row of its own; what is asked is cut. -/
def r9 (w5 : World) (go g1 : Nat) (rv : Value) (a : Int) (co v : Nat → Nat) (L : Nat → Bool) (i : Nat) (u : Value) (w : World) : Prop :=
  match i with
  | 0 => u = .pointer (some ⟨go, 0, none⟩)
  | 1 => u = .pointer (some ⟨g1, 1, none⟩)
  | 6 => u = .pointer (some ⟨g1, 1, none⟩)
  | 2 => u = .int .u8 a
  | 7 => u = .int .u8 a
  | 3 => u = .int .i64 a
  | 8 => u = .int .i64 a
  | 4 => u = rv
  | 5 => ∃ V, u = .agg (relArr V) ∧ Lst a co v V ∧ Clo a co (E V)
  | 9 => u = .int .i64 ((six a : Nat) : Int)
  | 12 => u = .int .i64 ((six a : Nat) : Int)
  | 10 => ∃ g, u = .pointer (some ⟨g, 0, none⟩) ∧ w5.heap.size ≤ g ∧ (L 11 = false → Blk w g (relArr fun _ => 0) 40) ∧ (L 11 = true → ∃ V, Blk w g (relArr V) 40 ∧ Lst a co v V ∧ Clo a co (E V))
  | _ => True
theorem r9_keep {w5 : World} {go g1 : Nat} {rv : Value} {a : Int} {co v : Nat → Nat} {L L2 : Nat → Bool} {i : Nat} {u : Value} {w w' : World} (h : r9 w5 go g1 rv a co v L i u w) (hc : Ch nob w w') (hl : L2 11 = L 11) : r9 w5 go g1 rv a co v L2 i u w' := by
  unfold r9 at h ⊢
  split
  all_goals first | exact h | exact trivial | skip
  obtain ⟨g, h1, h2, h3, h4⟩ := h
  exact ⟨g, h1, h2, fun e => (h3 (hl ▸ e)).ch hc (fun h => h), fun e => by obtain ⟨V, q1, q2⟩ := h4 (hl ▸ e); exact ⟨V, q1.ch hc (fun h => h), q2⟩⟩
/-- The region that draws: the document's answer, and are both the same? -/
def r10 (g1 : Nat) (A : Option Addr) (n cp : Nat) (rv : Value) (a : Int) (p2 p4 : Bool) (ah mu : Nat → Nat → Bool) (V : Nat → Nat) (L : Nat → Bool) (i : Nat) (u : Value) (w : World) : Prop :=
  match i with
  | 0 => u = .agg (relArr V)
  | 1 => u = .pointer (some ⟨g1, 0, none⟩)
  | 4 => u = .pointer (some ⟨g1, 0, none⟩)
  | 2 => u = .slice A n cp
  | 5 => u = .slice A n cp
  | 3 => u = .int .i64 n
  | 6 => u = .int .i64 a
  | 7 => u = rv
  | 8 => ∃ l, Pairs w u l ∧ DocOf p2 p4 ah mu n l
  | 9 => u = .int .i64 1
  | 10 => u = .bool false
  | _ => True
theorem r10_keep {g1 : Nat} {A : Option Addr} {n cp : Nat} {rv : Value} {a : Int} {p2 p4 : Bool} {ah mu : Nat → Nat → Bool} {V : Nat → Nat} {L L2 : Nat → Bool} {i : Nat} {u : Value} {w w' : World} (h : r10 g1 A n cp rv a p2 p4 ah mu V L i u w) (hc : Ch nob w w') : r10 g1 A n cp rv a p2 p4 ah mu V L2 i u w' := by
  unfold r10 at h ⊢
  split
  all_goals first | exact h | exact trivial | skip
  obtain ⟨l, h1, h2⟩ := h
  exact ⟨l, h1.keep hc, h2⟩
set_option maxRecDepth 100000 in
set_option maxHeartbeats 8000000 in
theorem law_leastsees (w : World) (hT : Tab w) (v : Value) (hs : List Txr) (a : Int) (bv : Value) (zs : List Int) (hv : Txns w v hs) (hk : TxnsOk hs) (hL : LensOk hs) (ha : 0 ≤ a ∧ a ≤ 255) (hb : IntsK .u8 w bv zs) (hz : ∀ z ∈ zs, (Lit.int .u8 z).wf = true) :
    Calls Tryd.prog 4 #[.agg #[v, .int .u8 a, bv]] w fun e w' => e = .returned (.bool true) ∧ Below w.heap.size w w' := by
  have HTT := Lib.hid (fun (u : World) (hc : Ch nob w u) => hT.keep hc)
  have HV := Lib.hid (fun (u : World) (hc : Ch nob w u) => hv.keep hc)
  have HSP := Lib.hid (fun (u : World) (hc : Ch nob w u) => speaks11 u (hT.keep hc))
  have HSM := Lib.hid (fun (u : World) (hc : Ch nob w u) => small_law11 u v hs (hv.keep hc) hL)
  have HRW := Lib.hid (fun (u : World) (hc : Ch nob w u) (h7 : hs.length ≤ 7) => row_law11 u hs.length bv zs (hb.keep hc) (fun z h => bounds_u8 (hz z h)) (by omega))
  have HOF := Lib.hid (fun (u : World) (hc : Ch nob w u) (h : smallZ hs = 1) => obj_order u v hs (hv.keep hc) hk (small_ok h).2.2.1 (small_ok h).2.1)
  have HDF := Lib.hid (fun (u : World) (hc : Ch nob w u) (h : smallZ hs = 1) (M : WM) (hM : histF hs hs.length = some M) => docF_of (hv.keep hc) (by have := (small_ok h).1; omega) (small_ok h).2.2.2 (small_ok h).2.2.1 hM)
  have HSO := Lib.hid (fun h => small_ok (hs := hs) h)
  obtain ⟨A, cp, rfl⟩ := hv.shape
  have hp1 := Blk.new w #[.slice A hs.length cp, .int .u8 a, bv] 48
  have hcP : Ch nob w (w.alloc (.cells #[.slice A hs.length cp, .int .u8 a, bv] 48)) := (Ch.refl _ _).alloc _
  clear hT hv hk hL hb hz
  go_enter Tryd.func4, Tryd.ntmps4
  go_wp2_with fail
  generalize w.alloc _ = w1 at hp1 hcP ⊢
  obtain ⟨g1, hg1⟩ : ∃ g, w.heap.size = g := ⟨_, rfl⟩
  have HG1 := Lib.hid hg1
  rw [hg1] at hp1 ⊢
  clear hg1
  refine (HSP.out w1 hcP).mono ?_
  rintro e w2 ⟨rfl, hcA⟩
  have hp2 := hp1.ch hcA (fun h => h)
  have hc2 := hcP.seq hcA
  clear hp1 hcP hcA HSP
  have hq := hp2.cell (i := 0) (v := .slice A hs.length cp) rfl
  go_wp2_with fail
  clear hq
  refine (HSM.out w2 hc2).mono ?_
  rintro e w3 ⟨rfl, hcA⟩
  have hp3 := hp2.ch hcA (fun h => h)
  have hc3 := hc2.seq hcA
  clear hp2 hc2 hcA HSM
  rcases small_cases hs with h0 | h1
  · rw [h0]
    go_wp2_with fail
    go_ret
    exact ⟨rfl, hc3.below⟩
  · rw [h1]
    have H1 := Lib.hid h1
    clear h1
    have hq := hp3.cell (i := 0) (v := .slice A hs.length cp) rfl
    go_wp2_with fail
    clear hq
    refine (HOF.out w3 hc3 H1.out).mono ?_
    rintro e w4 ⟨go, M, S, T, F, R, rfl, hM, hob, hbt, hcA⟩
    have hp4 := hp3.ch hcA (fun h => h)
    have hc4 := hc3.seq hcA
    have HOB := Lib.hid (fun (u : World) (hc : Ch nob w4 u) => hob.keep hc)
    have HBT := Lib.hid hbt
    have HM := Lib.hid hM
    clear hp3 hc3 hcA HOF hob hbt hM
    have hq := hp4.cell (i := 0) (v := .slice A hs.length cp) rfl
    have hq2 := hp4.cell (i := 2) (v := bv) rfl
    go_wp2_with fail
    clear hq hq2
    refine (HRW.out w4 hc4 (HSO.out H1.out).1).mono ?_
    rintro e w5 ⟨rv, row, rfl, hrow, hrok, hcA⟩
    have hp5 := hp4.ch hcA (fun h => h)
    have hc5 := hc4.seq hcA
    have hc45 := hcA
    clear hp4 hcA HRW
    go_wp2_with fail
    have HLS := Lib.hid (fun (u : World) (hc : Ch nob w5 u) => of_least u a go hs.length S T F R rv row (HOB.out u (hc45.seq hc)) (hrow.keep hc) (by rw [hrok.len]; have := (HSO.out H1.out).1; omega) (HTT.out u (hc5.seq hc)))
    have HRK := Lib.hid hrok
    have HROW := Lib.hid (fun (u : World) (hc : Ch nob w5 u) => hrow.keep hc)
    obtain ⟨co, hco⟩ : ∃ co, chainTo row row.length = co := ⟨_, rfl⟩
    have HCO := Lib.hid hco
    rw [hco] at HLS
    obtain ⟨vm, hvm⟩ : ∃ vm, mustR a S T F R co = vm := ⟨_, rfl⟩
    have HVM := Lib.hid hvm
    rw [hvm] at HLS
    have HP5 := Lib.hid hp5
    clear hco hvm hrow hrok hp5
    refine wp_region_led2 (r9 w5 go g1 rv a co vm) (fun _ u => Ch nob w5 u) (by kernel_rfl) (by kernel_rfl) (by rfl) (by kernel_rfl) (Ch.refl _ _).drew ?_ ?_
    · intro i o hi L ac wq hcq hk K hK
      have ht1 : ac.tmps[1]? = some (.pointer (some ⟨g1, 0, none⟩)) := (hk.old 1 (by decide +kernel)).trans rfl
      have ht3 : ac.tmps[3]? = some (.pointer (some ⟨go, 0, none⟩)) := (hk.old 3 (by decide +kernel)).trans rfl
      have ht5 : ac.tmps[5]? = some rv := (hk.old 5 (by decide +kernel)).trans rfl
      have hbq := HP5.out.ch hcq (fun h => h)
      have y1 := hbq.cell (i := 1) (v := .int .u8 a) rfl
      have hwr : IntKind.i64.wrap a = a := IntWalk.i64_in a (by omega)
      have Keep : ∀ v w', i ≠ 11 → Ch nob wq w' → r9 w5 go g1 rv a co vm (mark L i) i v w' → K (ac.put o.dst v) w' := fun v w' hne hc hr => hK v w' (hcq.seq hc) hr (fun j u p s _ _ _ _ _ h => r9_keep h hc (mark_ne (fun e => hne e.symm)))
      match i, hi with
      | 0, hi =>
        cases hi
        exact yld_one (v := .pointer (some ⟨go, 0, none⟩)) (w' := wq) rfl (by go_simp) (Keep _ _ (by decide) (Ch.refl _ _) rfl)
      | 1, hi =>
        cases hi
        exact yld_one (v := .pointer (some ⟨g1, 1, none⟩)) (w' := wq) rfl (by go_simp) (Keep _ _ (by decide) (Ch.refl _ _) rfl)
      | 6, hi =>
        cases hi
        exact yld_one (v := .pointer (some ⟨g1, 1, none⟩)) (w' := wq) rfl (by go_simp) (Keep _ _ (by decide) (Ch.refl _ _) rfl)
      | 2, hi =>
        cases hi
        obtain ⟨v1, h1, h2⟩ := hk.val ⟨1, .data⟩ (by simp) rfl _ 37 rfl rfl
        rw [show v1 = .pointer (some ⟨g1, 1, none⟩) from h2] at h1
        exact yld_one (v := .int .u8 a) (w' := wq) rfl (by go_simp) (Keep _ _ (by decide) (Ch.refl _ _) rfl)
      | 7, hi =>
        cases hi
        obtain ⟨v1, h1, h2⟩ := hk.val ⟨6, .data⟩ (by simp) rfl _ 42 rfl rfl
        rw [show v1 = .pointer (some ⟨g1, 1, none⟩) from h2] at h1
        exact yld_one (v := .int .u8 a) (w' := wq) rfl (by go_simp) (Keep _ _ (by decide) (Ch.refl _ _) rfl)
      | 3, hi =>
        cases hi
        obtain ⟨v1, h1, h2⟩ := hk.val ⟨2, .data⟩ (by simp) rfl _ 38 rfl rfl
        rw [show v1 = .int .u8 a from h2] at h1
        exact yld_one (v := .int .i64 a) (w' := wq) rfl (by go_simp) (Keep _ _ (by decide) (Ch.refl _ _) rfl)
      | 8, hi =>
        cases hi
        obtain ⟨v1, h1, h2⟩ := hk.val ⟨7, .data⟩ (by simp) rfl _ 43 rfl rfl
        rw [show v1 = .int .u8 a from h2] at h1
        exact yld_one (v := .int .i64 a) (w' := wq) rfl (by go_simp) (Keep _ _ (by decide) (Ch.refl _ _) rfl)
      | 4, hi =>
        cases hi
        have e1 := yld_slot ht5
        exact yld_one (v := rv) (w' := wq) rfl (by simp only [execOp, e1]; rfl) (Keep _ _ (by decide) (Ch.refl _ _) rfl)
      | 5, hi =>
        cases hi
        obtain ⟨v1, h1, h2⟩ := hk.val ⟨0, .data⟩ (by simp) rfl _ 36 rfl rfl
        obtain ⟨v2, h3, h4⟩ := hk.val ⟨3, .data⟩ (by simp) rfl _ 39 rfl rfl
        obtain ⟨v3, h5, h6⟩ := hk.val ⟨4, .data⟩ (by simp) rfl _ 40 rfl rfl
        rw [show v1 = .pointer (some ⟨go, 0, none⟩) from h2] at h1
        rw [show v2 = .int .i64 a from h4] at h3
        rw [show v3 = rv from h6] at h5
        have e1 := yld_slot h1
        have e2 := yld_slot h3
        have e3 := yld_slot h5
        refine yld_call (f := 21) (vs := #[.pointer (some ⟨go, 0, none⟩), .int .i64 a, rv]) rfl (by simp only [execOp, Sem.run_bind, Sem.run_pure, Result.andThen_ok, resolve, List.map_toArray, List.map_cons, List.map_nil, e1, e2, e3]; rfl) ?_
        refine (HLS.out wq hcq).mono ?_
        rintro e w' ⟨V, rfl, hl, hcl, hc⟩
        exact ⟨_, rfl, Keep _ _ (by decide) hc ⟨V, rfl, hl, hcl⟩⟩
      | 9, hi =>
        cases hi
        obtain ⟨v1, h1, h2⟩ := hk.val ⟨8, .data⟩ (by simp) rfl _ 44 rfl rfl
        rw [show v1 = .int .i64 a from h2] at h1
        exact yld_one (v := .int .i64 (bits .and .i64 a 63)) (w' := wq) rfl (by go_simp) (Keep _ _ (by decide) (Ch.refl _ _) (by show Value.int .i64 _ = _; rw [six63]))
      | 10, hi =>
        cases hi
        exact yld_one (v := .pointer (some ⟨wq.heap.size, 0, none⟩)) (w' := wq.alloc (.cells (relArr fun _ => 0) 40)) rfl (by go_simp) (Keep _ _ (by decide) ((Ch.refl _ _).alloc _) ⟨_, rfl, hcq.size, fun _ => Blk.new _ _ _, fun h => by
          rw [mark_ne (by decide)] at h
          have := hk.led 11 _ rfl h ⟨10, .data⟩ (by simp) rfl
          rw [hk.new] at this; cases this⟩)
      | 11, hi =>
        cases hi
        obtain ⟨v1, h1, g, h2, hge, hz0, _⟩ := hk.val ⟨10, .data⟩ (by simp) rfl _ 6 rfl rfl
        obtain ⟨v2, h3, V, h4, hl, hcl⟩ := hk.val ⟨5, .data⟩ (by simp) rfl _ 41 rfl rfl
        subst h2 h4
        have hzb := hz0 hk.new
        refine wpList_store_row rfl 40 (.tmp 6) (.tmp 41) rfl g (relArr V) (yld_slot h1) (yld_slot h3) 40 _ hzb (by rw [relArr_size]; kernel_rfl) (by rw [relArr_size, relArr_size]) (relArr_cells _) ?_
        have hst := hzb.row (relArr V)
        have hch := (Ch.refl (· = g) wq).setRow g (relArr V) (fun _ => rfl)
        refine hK undef _ (hcq.fresh hch hge) trivial (fun j u p s hji hLj hp hs hu hr => ?_)
        by_cases e : j = 10
        · subst e
          cases hp
          cases hs
          rw [h1] at hu
          cases hu
          exact ⟨g, rfl, hge, fun h => (by rw [mark_same] at h; cases h), fun _ => ⟨V, hst, hl, hcl⟩⟩
        · unfold r9 at hr ⊢
          split
          all_goals first | exact hr | exact trivial | skip
          exact absurd rfl e
      | 12, hi =>
        cases hi
        obtain ⟨v1, h1, h2⟩ := hk.val ⟨9, .data⟩ (by simp) rfl _ 45 rfl rfl
        rw [show v1 = .int .i64 ((six a : Nat) : Int) from h2] at h1
        exact yld_one (v := .int .i64 ((six a : Nat) : Int)) (w' := wq) rfl (by go_simp) (Keep _ _ (by decide) (Ch.refl _ _) rfl)
      | i + 13, hi => simp at hi
    · intro L vals9 w6 hL hc56 hv9
      obtain ⟨g6, e6, hge6, _, hpost⟩ := hv9 10 _ 6 rfl rfl
      obtain ⟨V, hvb, hlst, hclo⟩ := hpost (hL 11 (by decide))
      have e7 : vals9 12 = .int .i64 ((six a : Nat) : Int) := hv9 12 _ 7 rfl rfl
      clear hv9 hL hpost
      simp only [putAll, Act.put, List.setIfInBounds_toArray, List.set_cons_succ, List.set_cons_zero]
      rw [e6, e7]
      generalize vals9 0 = z36
      generalize vals9 1 = z37
      generalize vals9 2 = z38
      generalize vals9 3 = z39
      generalize vals9 4 = z40
      generalize vals9 5 = z41
      generalize vals9 6 = z42
      generalize vals9 7 = z43
      generalize vals9 8 = z44
      generalize vals9 9 = z45
      clear e6 e7
      have HP6 := Lib.hid (HP5.out.ch hc56 (fun h => h))
      have hc6 := hc5.seq hc56
      have HVB := Lib.hid hvb
      have okV := hlst.ok
      have HX := Lib.hid (fun (l : List IPair) (hd : DocOf (hasI (six a : Nat) 2) (hasI (six a : Nat) 4) (ahB row) (musB (fromB M hs) (sesB hs) (timeB hs) (rivB hs) (six a : Nat) row) hs.length l) => show Is V l from HBT.out.is HRK.out a (by rw [HCO.out, HVM.out]; exact hlst) (by rw [HCO.out]; exact hclo) hd)
      have HROW6 := Lib.hid (fun (u : World) (hc : Ch nob w6 u) => HROW.out u (hc56.seq hc))
      have HOB6 := Lib.hid (fun (u : World) (hc : Ch nob w6 u) => HOB.out u ((hc45.seq hc56).seq hc))
      have HT6 := Lib.hid (fun (u : World) (hc : Ch nob w6 u) => HTT.out u (hc6.seq hc))
      have HDF6 := Lib.hid (fun (u : World) (hc : Ch nob w6 u) => HDF.out u (hc6.seq hc) H1.out M HM.out)
      have hn7 := Lib.hid (HSO.out H1.out).1
      have HSUB := Lib.hid (show ∀ i j, i < 64 → j < 64 → E (baseR (six a : Nat) S T F) i j → E V i j from fun i j hi hj he => by
        refine hlst.sub i j hi hj ?_
        rw [← HVM.out, mustR_bit _ _ _ _ _ _ _ _ hi]
        left
        have h1 := (HBT.out.base (six a : Nat) i j hi hj).1 he
        rw [six_nat _ (six_lt a)] at h1
        exact (HBT.out.base a i j hi hj).2 h1)
      obtain ⟨n, hn2⟩ : ∃ n, hs.length = n := ⟨_, rfl⟩
      have HN := Lib.hid hn2
      rw [hn2] at HX HDF6 HOB6 hn7
      rw [hn2] at HP6
      have HBT2 := HBT.out
      rw [hn2] at HBT2
      have HBB := Lib.hid HBT2
      have HOFD := Lib.hid (fun (u : World) (hc : Ch nob w6 u) => of_ref11 u (.slice A n cp) rv n (fromB M hs) (sesB hs) (timeB hs) (rivB hs) (six a : Nat) row (HDF6.out u hc) (HROW6.out u hc) (by have := six_lt a; omega))
      have HSMX := Lib.hid (fun (u : World) (vv : Value) (l : List IPair) (h2 : Pairs u vv l) (h3 : Is V l) => same_law11 u V okV n vv l (by have := hn7.out; omega) h2 h3)
      obtain ⟨p2, hp2⟩ : ∃ b, hasI (six a : Nat) 2 = b := ⟨_, rfl⟩
      obtain ⟨p4, hp4⟩ : ∃ b, hasI (six a : Nat) 4 = b := ⟨_, rfl⟩
      obtain ⟨ah, hah⟩ : ∃ b, ahB row = b := ⟨_, rfl⟩
      obtain ⟨mu, hmu⟩ : ∃ b, musB (fromB M hs) (sesB hs) (timeB hs) (rivB hs) (six a : Nat) row = b := ⟨_, rfl⟩
      rw [hp2, hp4, hah, hmu] at HX HOFD
      rw [hn2]
      clear hp2 hp4 hah hmu hn2 HBT2 HVM hlst hclo HP5 HLS HROW HOB HDF hvb HV HSO HBT HM HRK hc45 hc56 hc4 HCO HROW6
      go_wp2_with fail
      refine wp_region_led2 (r10 g1 A n cp rv (six a : Nat) p2 p4 ah mu V) (fun _ u => Ch nob w6 u) (by kernel_rfl) (by kernel_rfl) (by rfl) (by kernel_rfl) (Ch.refl _ _).drew ?_ ?_
      · intro i o hi L ac wq hcq hk K hK
        have ht1 : ac.tmps[1]? = some (.pointer (some ⟨g1, 0, none⟩)) := (hk.old 1 (by decide +kernel)).trans rfl
        have ht6 : ac.tmps[6]? = some (.pointer (some ⟨g6, 0, none⟩)) := (hk.old 6 (by decide +kernel)).trans rfl
        have ht7 : ac.tmps[7]? = some (.int .i64 ((six a : Nat) : Int)) := (hk.old 7 (by decide +kernel)).trans rfl
        have ht5 : ac.tmps[5]? = some rv := (hk.old 5 (by decide +kernel)).trans rfl
        have hbq := HP6.out.ch hcq (fun h => h)
        have hvq := HVB.out.ch hcq (fun h => h)
        have y0 := hbq.cell (i := 0) (v := .slice A n cp) rfl
        have Keep : ∀ v w', Ch nob wq w' → r10 g1 A n cp rv (six a : Nat) p2 p4 ah mu V (mark L i) i v w' → K (ac.put o.dst v) w' := fun v w' hc hr => hK v w' (hcq.seq hc) hr (fun j u p s _ _ _ _ _ h => r10_keep h hc)
        match i, hi with
        | 0, hi =>
          cases hi
          have e1 := yld_slot ht6
          refine wpList_load_rowG rfl 40 (.tmp 6) rfl g6 e1 40 (relArr V) (0, 0) _ hvq rfl rfl (by rw [relArr_size]; kernel_rfl) ?_
          exact Keep _ _ (Ch.refl _ _) rfl
        | 1, hi =>
          cases hi
          exact yld_one (v := .pointer (some ⟨g1, 0, none⟩)) (w' := wq) rfl (by go_simp) (Keep _ _ (Ch.refl _ _) rfl)
        | 4, hi =>
          cases hi
          exact yld_one (v := .pointer (some ⟨g1, 0, none⟩)) (w' := wq) rfl (by go_simp) (Keep _ _ (Ch.refl _ _) rfl)
        | 2, hi =>
          cases hi
          obtain ⟨v1, h1, h2⟩ := hk.val ⟨1, .data⟩ (by simp) rfl _ 47 rfl rfl
          rw [show v1 = .pointer (some ⟨g1, 0, none⟩) from h2] at h1
          exact yld_one (v := .slice A n cp) (w' := wq) rfl (by go_simp) (Keep _ _ (Ch.refl _ _) rfl)
        | 5, hi =>
          cases hi
          obtain ⟨v1, h1, h2⟩ := hk.val ⟨4, .data⟩ (by simp) rfl _ 50 rfl rfl
          rw [show v1 = .pointer (some ⟨g1, 0, none⟩) from h2] at h1
          exact yld_one (v := .slice A n cp) (w' := wq) rfl (by go_simp) (Keep _ _ (Ch.refl _ _) rfl)
        | 3, hi =>
          cases hi
          obtain ⟨v1, h1, h2⟩ := hk.val ⟨2, .data⟩ (by simp) rfl _ 48 rfl rfl
          rw [show v1 = .slice A n cp from h2] at h1
          exact yld_one (v := .int .i64 n) (w' := wq) rfl (by go_simp) (Keep _ _ (Ch.refl _ _) rfl)
        | 6, hi =>
          cases hi
          exact yld_one (v := .int .i64 ((six a : Nat) : Int)) (w' := wq) rfl (by go_simp) (Keep _ _ (Ch.refl _ _) rfl)
        | 7, hi =>
          cases hi
          have e1 := yld_slot ht5
          exact yld_one (v := rv) (w' := wq) rfl (by simp only [execOp, e1]; rfl) (Keep _ _ (Ch.refl _ _) rfl)
        | 8, hi =>
          cases hi
          obtain ⟨v1, h1, h2⟩ := hk.val ⟨5, .data⟩ (by simp) rfl _ 51 rfl rfl
          obtain ⟨v2, h3, h4⟩ := hk.val ⟨6, .data⟩ (by simp) rfl _ 52 rfl rfl
          obtain ⟨v3, h5, h6⟩ := hk.val ⟨7, .data⟩ (by simp) rfl _ 53 rfl rfl
          rw [show v1 = .slice A n cp from h2] at h1
          rw [show v2 = .int .i64 ((six a : Nat) : Int) from h4] at h3
          rw [show v3 = rv from h6] at h5
          have e1 := yld_slot h1
          have e2 := yld_slot h3
          have e3 := yld_slot h5
          refine yld_call (f := 26) (vs := #[.slice A n cp, .int .i64 ((six a : Nat) : Int), rv]) rfl (by simp only [execOp, Sem.run_bind, Sem.run_pure, Result.andThen_ok, resolve, List.map_toArray, List.map_cons, List.map_nil, e1, e2, e3]; rfl) ?_
          refine (HOFD.out wq hcq).mono ?_
          rintro e w' ⟨u, l, rfl, hpr, hdo, hc⟩
          exact ⟨_, rfl, Keep _ _ hc ⟨l, hpr, hdo⟩⟩
        | 9, hi =>
          cases hi
          obtain ⟨v1, h1, h2⟩ := hk.val ⟨0, .data⟩ (by simp) rfl _ 46 rfl rfl
          obtain ⟨v2, h3, h4⟩ := hk.val ⟨3, .data⟩ (by simp) rfl _ 49 rfl rfl
          obtain ⟨v3, h5, l, h6, h7⟩ := hk.val ⟨8, .data⟩ (by simp) rfl _ 54 rfl rfl
          rw [show v1 = .agg (relArr V) from h2] at h1
          rw [show v2 = .int .i64 n from h4] at h3
          have e1 := yld_slot h1
          have e2 := yld_slot h3
          have e3 := yld_slot h5
          refine yld_call (f := 25) (vs := #[.agg (relArr V), .int .i64 n, v3]) rfl (by simp only [execOp, Sem.run_bind, Sem.run_pure, Result.andThen_ok, resolve, List.map_toArray, List.map_cons, List.map_nil, e1, e2, e3]; rfl) ?_
          refine (HSMX.out wq v3 l h6 (HX.out l h7)).mono ?_
          rintro e w' ⟨rfl, hc⟩
          exact ⟨_, rfl, Keep _ _ hc rfl⟩
        | 10, hi =>
          cases hi
          obtain ⟨v1, h1, h2⟩ := hk.val ⟨9, .data⟩ (by simp) rfl _ 55 rfl rfl
          rw [show v1 = .int .i64 1 from h2] at h1
          exact yld_one (v := .bool false) (w' := wq) rfl (by go_simp) (Keep _ _ (Ch.refl _ _) rfl)
        | i + 11, hi => simp at hi
      · intro L valsX w7 hL hc67 hvx
        have e10 : valsX 10 = .bool false := hvx 10 _ 56 rfl rfl
        clear hvx hL
        simp only [putAll, Act.put, List.setIfInBounds_toArray, List.set_cons_succ, List.set_cons_zero]
        rw [e10]
        generalize valsX 0 = z46
        generalize valsX 1 = z47
        generalize valsX 2 = z48
        generalize valsX 3 = z49
        generalize valsX 4 = z50
        generalize valsX 5 = z51
        generalize valsX 6 = z52
        generalize valsX 7 = z53
        generalize valsX 8 = z54
        generalize valsX 9 = z55
        clear e10
        have hp7 := HP6.out.ch hc67 (fun h => h)
        have hv7 := HVB.out.ch hc67 (fun h => h)
        have hc7 := hc6.seq hc67
        clear HX HOFD HSMX HP6 HVB
        go_wp2_with fail
        refine (base_least w7 ((six a : Nat) : Int) go n S T F R (HOB6.out w7 hc67)).mono ?_
        rintro e w8 ⟨rfl, hcA⟩
        have hp8 := hp7.ch hcA (fun h => h)
        have hv8 := hv7.ch hcA (fun h => h)
        have hc68 := hc67.seq hcA
        have HOK := Lib.hid (show RelOK (baseR (six a : Nat) S T F) from baseR_ok _ (HOB6.out w6 (Ch.refl _ _)).okS (HOB6.out w6 (Ch.refl _ _)).okT (HOB6.out w6 (Ch.refl _ _)).okF)
        have HBI := Lib.hid (fun (i k : Nat) (hi : i < n) (hk : k < n) => show hasR (baseR (six a : Nat) S T F) (i : Int) (k : Int) = (i != k && (fromB M hs i k || (hasI (six a : Nat) 1 && sesB hs i k) || (hasI (six a : Nat) 32 && timeB hs i k))) from by
          have h64 := HBB.out.hn
          rw [hasR_nat _ _ _ (by omega) (by omega), Bool.eq_iff_iff]
          have h1 := HBB.out.base (six a : Nat) i k (by omega) (by omega)
          rw [six_nat _ (six_lt a)] at h1
          refine h1.trans ?_
          simp only [Bool.and_eq_true, Bool.or_eq_true, bne_iff_ne, ne_eq]
          constructor
          · rintro ⟨_, _, q1, q2 | q2 | q2⟩
            · exact ⟨q1, .inl (.inl q2)⟩
            · exact ⟨q1, .inl (.inr q2)⟩
            · exact ⟨q1, .inr q2⟩
          · rintro ⟨q1, (q2 | q2) | q2⟩
            · exact ⟨hi, hk, q1, .inl q2⟩
            · exact ⟨hi, hk, q1, .inr (.inl q2)⟩
            · exact ⟨hi, hk, q1, .inr (.inr q2)⟩)
        have HW1 := Lib.hid (show withinR (baseR (six a : Nat) S T F) V = true from (withinR_iff _ _ HOK.out).2 HSUB.out)
        have HQ1 := Lib.hid (ask_one (six a) (six_lt a))
        have HQ32 := Lib.hid (ask_32 (six a) (six_lt a))
        obtain ⟨q1, hq1⟩ : ∃ b, hasI (six a : Nat) 1 = b := ⟨_, rfl⟩
        obtain ⟨q32, hq32⟩ : ∃ b, hasI (six a : Nat) 32 = b := ⟨_, rfl⟩
        rw [hq1] at HQ1 HBI
        rw [hq32] at HQ32 HBI
        obtain ⟨B, hB⟩ : ∃ B, baseR (six a : Nat) S T F = B := ⟨_, rfl⟩
        rw [hB] at HOK HBI HW1
        rw [hB]
        have okB := HOK.out
        clear hB hq1 hq32 hp7 hv7 hc67 hcA HSUB HOB6 HBB hc7
        have hn8 := Blk.new w8 (relArr fun _ => 0) 40
        obtain ⟨h8, hcB⟩ := new_row w8 (relArr fun _ => 0) (relArr B) 40
        have hp9 := hp8.ch hcB (fun h => h)
        have hv9 := hv8.ch hcB (fun h => h)
        have hc69 := hc68.seq hcB
        have hcl := hp9.cell (i := 0) (v := .slice A n cp) rfl
        go_wp2_with (refine wpList_store_row rfl 40 (.tmp 8) (.tmp 59) rfl w8.heap.size (relArr B) rfl rfl 40 _ hn8 (by rw [relArr_size]; kernel_rfl) (by rw [relArr_size, relArr_size]) (relArr_cells _) ?_)
        generalize (w8.alloc _).setRow _ _ = w9 at h8 hp9 hv9 hc69 hcl hcB ⊢
        obtain ⟨g8, hg8⟩ : ∃ g, w8.heap.size = g := ⟨_, rfl⟩
        rw [hg8] at h8 ⊢
        clear hg8 hn8 hp8 hv8 hc68 hcl hcB
        go_loopw [63] (fun q wr => ∃ i : Nat, q = .int .i64 i ∧ i ≤ n ∧ Blk wr g1 #[.slice A n cp, .int .u8 a, bv] 48 ∧ Blk wr g6 (relArr V) 40 ∧ Blk wr g8 (relArr B) 40 ∧ Ch nob w6 wr) (fun q _ => n - (intOf q).toNat)
        case atStart => exact ⟨0, rfl, by omega, hp9, hv9, h8, hc69⟩
        case round =>
          clear hp9 hv9 h8 hc69
          obtain ⟨i, rfl, hi, hp, hv, hb, hc⟩ := hrel
          have h7n := hn7.out
          by_cases hlt : i < n
          · have hd : decide ((i : Int) < (n : Int)) = true := decide_eq_true (by omega)
            have hcl := hp.cell (i := 0) (v := .slice A n cp) rfl
            go_wp2_with fail
            clear hcl
            go_loopw [69] (fun q wr => ∃ k : Nat, q = .int .i64 k ∧ k ≤ n ∧ Blk wr g1 #[.slice A n cp, .int .u8 a, bv] 48 ∧ Blk wr g6 (relArr V) 40 ∧ Blk wr g8 (relArr B) 40 ∧ Ch nob w6 wr) (fun q _ => n - (intOf q).toNat)
            case atStart => exact ⟨0, rfl, by omega, hp, hv, hb, hc⟩
            case round =>
              clear hp hv hb hc
              obtain ⟨k, rfl, hk, hp, hv, hb, hc⟩ := hrel
              by_cases hlt2 : k < n
              · have hd2 : decide ((k : Int) < (n : Int)) = true := decide_eq_true (by omega)
                have HF := Lib.hid (fun (u : World) (hc : Ch nob w6 u) => (HDF6.out u hc).frm i k hlt hlt2 u (Ch.refl _ _))
                have HS := Lib.hid (fun (u : World) (hc : Ch nob w6 u) => (HDF6.out u hc).ses i k hlt hlt2 u (Ch.refl _ _))
                have HTM := Lib.hid (fun (u : World) (hc : Ch nob w6 u) => (HDF6.out u hc).tim i k hlt hlt2 u (Ch.refl _ _))
                have HWB := HBI.out i k hlt hlt2
                obtain ⟨b1, hb1⟩ : ∃ b, fromB M hs i k = b := ⟨_, rfl⟩
                obtain ⟨b2, hb2⟩ : ∃ b, sesB hs i k = b := ⟨_, rfl⟩
                obtain ⟨b3, hb3⟩ : ∃ b, timeB hs i k = b := ⟨_, rfl⟩
                rw [hb1] at HF HWB
                rw [hb2] at HS HWB
                rw [hb3] at HTM HWB
                obtain ⟨wt, hwt⟩ : ∃ wt, (i != k && (b1 || (q1 && b2) || (q32 && b3))) = wt := ⟨_, rfl⟩
                rw [hwt] at HWB
                have HWB2 := Lib.hid HWB
                have HWT0 := Lib.hid hwt.symm
                have h64 := hn7.out
                have HSE := Lib.hid (sees_has V i k (by omega) (by omega))
                clear hb1 hb2 hb3 hwt HWB
                go_upto_region 19 with (fail)
                go_cut [11] (fun x wc => x = .bool wt ∧ Blk wc g1 #[.slice A n cp, .int .u8 a, bv] 48 ∧ Blk wc g6 (relArr V) 40 ∧ Blk wc g8 (relArr B) 40 ∧ Ch nob w6 wc)
                case first =>
                  by_cases hik : i = k
                  · have hd3 : ((i : Int) != (k : Int)) = false := by rw [hik]; simp
                    have HWT := Lib.hid (show wt = false from by rw [HWT0.out, hik]; simp)
                    clear hik
                    go_wp2_with fail
                    go_meet
                    exact ⟨wt_is HWT.out, hp, hv, hb, hc⟩
                  · have hd3 : ((i : Int) != (k : Int)) = true := by simp; omega
                    have HWT := Lib.hid (show wt = (b1 || (q1 && b2) || (q32 && b3)) from by
                      rw [HWT0.out, show (i != k) = true from by simp [hik], Bool.true_and])
                    clear hik HWT0 HWB2
                    have hq := hp.cell (i := 0) (v := .slice A n cp) rfl
                    go_wp2_with fail
                    clear hq
                    refine (HF.out wr hc).mono ?_
                    rintro e wF ⟨rfl, hcA⟩
                    have hpF := hp.ch hcA (fun h => h)
                    have hvF := hv.ch hcA (fun h => h)
                    have hbF := hb.ch hcA (fun h => h)
                    have hcF := hc.seq hcA
                    clear hcA hp hv hb hc
                    cases b1
                    case true =>
                      go_wp2_with fail
                      go_meet
                      exact ⟨wt_is HWT.out, hpF, hvF, hbF, hcF⟩
                    case false =>
                      cases h1 : (bits .and .i64 ((six a : Nat) : Int) 1 == 1)
                      case true =>
                        obtain rfl : q1 = true := HQ1.out.symm.trans h1
                        have hq := hpF.cell (i := 0) (v := .slice A n cp) rfl
                        go_wp2_with fail
                        clear hq
                        refine (HS.out wF hcF).mono ?_
                        rintro e wS ⟨rfl, hcA⟩
                        have hpS := hpF.ch hcA (fun h => h)
                        have hvS := hvF.ch hcA (fun h => h)
                        have hbS := hbF.ch hcA (fun h => h)
                        have hcS := hcF.seq hcA
                        clear hcA hpF hvF hbF hcF
                        cases b2
                        case true =>
                          go_wp2_with fail
                          go_meet
                          exact ⟨wt_is HWT.out, hpS, hvS, hbS, hcS⟩
                        case false =>
                          cases h32 : (bits .and .i64 ((six a : Nat) : Int) 32 != 0)
                          case true =>
                            obtain rfl : q32 = true := HQ32.out.symm.trans h32
                            have hq := hpS.cell (i := 0) (v := .slice A n cp) rfl
                            go_wp2_with fail
                            clear hq
                            refine (HTM.out wS hcS).mono ?_
                            rintro e wT ⟨rfl, hcA⟩
                            have hpT := hpS.ch hcA (fun h => h)
                            have hvT := hvS.ch hcA (fun h => h)
                            have hbT := hbS.ch hcA (fun h => h)
                            have hcT := hcS.seq hcA
                            clear hcA hpS hvS hbS hcS
                            cases b3
                            case true =>
                              go_wp2_with fail
                              go_meet
                              exact ⟨wt_is HWT.out, hpT, hvT, hbT, hcT⟩
                            case false =>
                              go_wp2_with fail
                              go_meet
                              exact ⟨wt_is HWT.out, hpT, hvT, hbT, hcT⟩
                          case false =>
                            obtain rfl : q32 = false := HQ32.out.symm.trans h32
                            go_wp2_with fail
                            go_meet
                            exact ⟨wt_is HWT.out, hpS, hvS, hbS, hcS⟩
                      case false =>
                        obtain rfl : q1 = false := HQ1.out.symm.trans h1
                        cases h32 : (bits .and .i64 ((six a : Nat) : Int) 32 != 0)
                        case true =>
                          obtain rfl : q32 = true := HQ32.out.symm.trans h32
                          have hq := hpF.cell (i := 0) (v := .slice A n cp) rfl
                          go_wp2_with fail
                          clear hq
                          refine (HTM.out wF hcF).mono ?_
                          rintro e wT ⟨rfl, hcA⟩
                          have hpT := hpF.ch hcA (fun h => h)
                          have hvT := hvF.ch hcA (fun h => h)
                          have hbT := hbF.ch hcA (fun h => h)
                          have hcT := hcF.seq hcA
                          clear hcA hpF hvF hbF hcF
                          cases b3
                          case true =>
                            go_wp2_with fail
                            go_meet
                            exact ⟨wt_is HWT.out, hpT, hvT, hbT, hcT⟩
                          case false =>
                            go_wp2_with fail
                            go_meet
                            exact ⟨wt_is HWT.out, hpT, hvT, hbT, hcT⟩
                        case false =>
                          obtain rfl : q32 = false := HQ32.out.symm.trans h32
                          go_wp2_with fail
                          go_meet
                          exact ⟨wt_is HWT.out, hpF, hvF, hbF, hcF⟩
                case rest =>
                  obtain ⟨rfl, hpc, hvc, hbc, hcc⟩ := hcut
                  clear hp hv hb hc HF HS HTM HWT0
                  have c1 := Lib.hid (fun (u : Ext wc) => ext_of (has_rel B okB (i : Int) (k : Int) u.val))
                  rw [HWB2.out] at c1
                  have c2 := Lib.hid (fun (u : Ext wc) => ext_of (sees_least u.val V (k : Int) okV (HT6.out u.val (hcc.seq u.ch))))
                  have hlts := seesR_lt V (k : Int)
                  obtain ⟨sk, hsk⟩ : ∃ s, seesR V (k : Int) = s := ⟨_, rfl⟩
                  rw [hsk] at c2 hlts HSE
                  have c3 := Lib.hid (fun (u : Ext wc) => ext_of ((has_set sk (i : Int) u.val hlts).mono (fun e w' h => (⟨h.1, h.2 ▸ Ch.refl _ _⟩ : e = .returned (.bool (hasS sk (i : Int))) ∧ Ch nob u.val w'))))
                  have c4 := Lib.hid (fun (u : Ext wc) => ext_of (has_rel V okV (i : Int) (k : Int) u.val))
                  rw [HSE.out] at c3
                  obtain ⟨hb2, hhb⟩ : ∃ b, hasR V (i : Int) (k : Int) = b := ⟨_, rfl⟩
                  rw [hhb] at c3 c4
                  have e1 := bne_self wt
                  have e2 := bne_self hb2
                  clear hsk hlts hhb HSE HWB2
                  go_wp2_with fail
                  refine wp_region_ch (w0 := wc) (by kernel_rfl) (by kernel_rfl) (Ch.refl _ _) ?_
                  repeat (first
                    | (go_big_quiet_want; refine quiet_load_row 40 (.tmp 8) rfl g8 rfl 40 (relArr B) (by rintro _ ⟨u, rfl⟩; exact Ext.blk hbc u) _ rfl rfl (by rw [relArr_size]; kernel_rfl) ?_; simp only [Act.put, List.setIfInBounds_toArray, List.set_cons_succ, List.set_cons_zero]; go_big_quiet_on)
                    | (go_big_quiet_want; refine quiet_load_row 40 (.tmp 6) rfl g6 rfl 40 (relArr V) (by rintro _ ⟨u, rfl⟩; exact Ext.blk hvc u) _ rfl rfl (by rw [relArr_size]; kernel_rfl) ?_; simp only [Act.put, List.setIfInBounds_toArray, List.set_cons_succ, List.set_cons_zero]; go_big_quiet_on)
                    | go_big_quiet_step (first | (go_at_call_of 31 (Value.agg (relArr B)); exact c1.out _) | (go_at_call_of 31 (Value.agg (relArr V)); exact c4.out _) | (go_at_call 32; exact c2.out _) | (go_at_call 33; exact c3.out _)))
                  refine wpQuiet_nil ?_
                  rintro wq ⟨⟨wq2, hcq⟩, hwq⟩
                  obtain rfl : wq = wq2 := hwq
                  have hpq := hpc.ch hcq (fun h => h)
                  have hvq := hvc.ch hcq (fun h => h)
                  have hbq := hbc.ch hcq (fun h => h)
                  have hcq2 := hcc.seq hcq
                  clear hpc hvc hbc hcc hcq c1 c2 c3 c4
                  go_wp2_with fail
                  go_roundw
                  case rel => exact ⟨k + 1, by go_num, by omega, hpq, hvq, hbq, hcq2⟩
                  case measure => simp [intOf]; omega
              · obtain rfl : k = n := by omega
                have hd2 : decide ((k : Int) < (k : Int)) = false := by simp
                go_wp2_with fail
                go_roundw
                case rel => exact ⟨i + 1, by go_num, by omega, hp, hv, hb, hc⟩
                case measure => simp [intOf]; omega
          · obtain rfl : i = n := by omega
            have hd : decide ((i : Int) < (i : Int)) = false := by simp
            have c5 := Lib.hid (within_rel B V okB okV wr)
            rw [HW1.out] at c5
            have c6 := Lib.hid (fun (u : World) (hc : Ch nob w6 u) => sees_least u V (-1) okV (HT6.out u hc))
            rw [show seesR V (-1) = 0 from rfl] at c6
            go_wp2_with (first
              | (refine wpList_load_rowG rfl 40 (.tmp 8) rfl g8 rfl 40 (relArr B) (0, 0) _ hb rfl rfl (by rw [relArr_size]; kernel_rfl) ?_)
              | (refine wpList_load_rowG rfl 40 (.tmp 6) rfl g6 rfl 40 (relArr V) (0, 0) _ hv rfl rfl (by rw [relArr_size]; kernel_rfl) ?_))
            refine c5.out.mono ?_
            rintro e wz ⟨rfl, hcz⟩
            have hvz := hv.ch hcz (fun h => h)
            have hcz2 := hc.seq hcz
            clear hp hv hb hc hcz c5
            go_wp2_with (first
              | (refine wpList_load_rowG rfl 40 (.tmp 6) rfl g6 rfl 40 (relArr V) (0, 0) _ hvz rfl rfl (by rw [relArr_size]; kernel_rfl) ?_))
            refine (c6.out wz hcz2).mono ?_
            rintro e wy ⟨rfl, hcy⟩
            have hend := hc6.seq (hcz2.seq hcy)
            clear hvz hcz2 hcy
            go_wp2_with fail
            go_ret
            exact ⟨rfl, hend.below⟩
end Go.Proofs.YtlhfpnkfapghoaaDoor
end
