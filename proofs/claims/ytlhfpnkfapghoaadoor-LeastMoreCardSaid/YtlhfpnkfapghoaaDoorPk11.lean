/- Texts of this claim, merged: Law11c Level2 MoreP Led3 Law11d. -/
import Derived.Test.YtlhfpnkfapghoaaDoorPk4
import Derived.Test.YtlhfpnkfapghoaaDoorPk5
import Derived.Test.YtlhfpnkfapghoaaDoorPk10
section
/- The law LeastSees: of any history, in any order, whatever is asked, the least that must be seen is the document's. No condition but each theorem's own. -/
set_option linter.unusedVariables false
set_option linter.unusedSimpArgs false
namespace Go.Proofs.YtlhfpnkfapghoaaDoor
open Go.RowKit Go.Maps
attribute [local go_sem ↓] zero_rel

theorem doc_okB {hs : List Txr} (h : docH hs = 0) : bigB hs = false ∧ mayH hs = true := by
  unfold docH at h
  cases h1 : bigB hs with
  | true => rw [h1] at h; simp at h
  | false =>
    rw [h1] at h
    cases h2 : mayH hs with
    | true => exact ⟨rfl, rfl⟩
    | false => rw [h2] at h; simp at h
theorem small_ok {hs : List Txr} (h : smallZ hs = 1) : hs.length ≤ 7 ∧ bigB hs = false ∧ mayH hs = true ∧ countTo hs hs.length ≤ 1024 := by
  unfold smallZ at h
  split at h
  · cases h
  · rename_i hn
    rw [Bool.or_eq_true, not_or, decide_eq_true_iff, bne_iff_ne, ne_eq, Decidable.not_not] at hn
    obtain ⟨hb, hm⟩ := doc_okB hn.2
    refine ⟨by omega, hb, hm, ?_⟩
    unfold bigB at hb
    rw [Bool.or_eq_false_iff, decide_eq_false_iff_not, decide_eq_false_iff_not] at hb
    omega
theorem small_cases (hs : List Txr) : smallZ hs = 0 ∨ smallZ hs = 1 := by unfold smallZ; split; exact .inl rfl; exact .inr rfl
/-- What the document tells of a history that may be. -/
theorem docF_of {w : World} {v : Value} {hs : List Txr} {M : WM} (hv : Txns w v hs) (hn : hs.length ≤ 64) (hc : countTo hs hs.length ≤ 1024) (hm : mayH hs = true) (hM : histF hs hs.length = some M) : DocF w v hs.length (fromB M hs) (sesB hs) (timeB hs) (rivB hs) :=
  ⟨hv.shape, hn, fun i k _ hk u hu => from_ref08 u v hs i k M (hv.keep hu) (by omega) hm hM hk, fun i k hi hk u hu => session_ref08 u v hs i k (hv.keep hu) hi hk, fun i k hi hk u hu => time_ref08 u v hs i k (hv.keep hu) hi hk,
    fun i k hi hk u hu => rivals_ref08 u v hs i k (hv.keep hu) hi hk (fun a ha => by have := may_len hm ha; omega)⟩
theorem wt_is {x y : Bool} (h : x = y) : Value.bool y = Value.bool x := by rw [h]
theorem sees_has (V : Nat → Nat) (i k : Nat) (hi : i < 64) (hk : k < 64) : hasS (seesR V (k : Int)) (i : Int) = hasR V (i : Int) (k : Int) := by
  unfold seesR
  rw [if_pos (by omega), hasS_nat _ _ hi, hasR_nat _ _ _ hi hk, Bool.eq_iff_iff]
  exact turned_bit V k i hk hi
theorem six63 (a : Int) : bits .and .i64 a 63 = ((six a : Nat) : Int) := by
  have h := and_small a 63 (by omega)
  rw [show ((63 : Nat) : Int) = 63 from rfl] at h
  rw [h]
  have : six a &&& 63 = six a := by
    have h1 := Nat.and_two_pow_sub_one_eq_mod (six a) 6
    have h2 := six_lt a
    rw [show (2 : Nat) ^ 6 - 1 = 63 from rfl] at h1
    rw [h1]; omega
  rw [this]
theorem ask_one (z : Nat) (hz : z < 64) : (bits .and .i64 (z : Int) 1 == 1) = hasI z 1 := by
  have h := and_small (z : Int) 1 (by omega)
  rw [show ((1 : Nat) : Int) = 1 from rfl] at h
  rw [h, six_nat z hz]
  have key : ∀ z : Fin 64, (((z.val &&& 1 : Nat) : Int) == 1) = hasI z.val 1 := by decide +kernel
  exact key ⟨z, hz⟩
theorem ask_32 (z : Nat) (hz : z < 64) : (bits .and .i64 (z : Int) 32 != 0) = hasI z 32 := by
  have := ask_has (z : Int) 32 (by omega)
  rw [six_nat z hz] at this
  exact this
/-- The region that draws: the least relation is found, and lies in a row of its own; what is asked is cut. -/
def r9 (w5 : World) (go g1 : Nat) (rv : Value) (a : Int) (co v : Nat → Nat) (L : Nat → Bool) (i : Nat) (u : Value) (w : World) : Prop :=
  match i with
  | 0 => u = .pointer (some ⟨go, 0, none⟩)
  | 1 => u = .pointer (some ⟨g1, 1, none⟩)
  | 6 => u = .pointer (some ⟨g1, 1, none⟩)
  | 2 => u = .int .u8 a
  | 7 => u = .int .u8 a
  | 3 => u = .int .i64 a
  | 8 => u = .int .i64 a
  | 4 => u = rv
  | 5 => ∃ V, u = .agg (relArr V) ∧ Lst a co v V ∧ Clo a co (E V)
  | 9 => u = .int .i64 ((six a : Nat) : Int)
  | 12 => u = .int .i64 ((six a : Nat) : Int)
  | 10 => ∃ g, u = .pointer (some ⟨g, 0, none⟩) ∧ w5.heap.size ≤ g ∧ (L 11 = false → Blk w g (relArr fun _ => 0) 40) ∧ (L 11 = true → ∃ V, Blk w g (relArr V) 40 ∧ Lst a co v V ∧ Clo a co (E V))
  | _ => True
theorem r9_keep {w5 : World} {go g1 : Nat} {rv : Value} {a : Int} {co v : Nat → Nat} {L L2 : Nat → Bool} {i : Nat} {u : Value} {w w' : World} (h : r9 w5 go g1 rv a co v L i u w) (hc : Ch nob w w') (hl : L2 11 = L 11) : r9 w5 go g1 rv a co v L2 i u w' := by
  unfold r9 at h ⊢
  split
  all_goals first | exact h | exact trivial | skip
  obtain ⟨g, h1, h2, h3, h4⟩ := h
  exact ⟨g, h1, h2, fun e => (h3 (hl ▸ e)).ch hc (fun h => h), fun e => by obtain ⟨V, q1, q2⟩ := h4 (hl ▸ e); exact ⟨V, q1.ch hc (fun h => h), q2⟩⟩
/-- The region that draws: the document's answer, and are both the same? -/
def r10 (g1 : Nat) (A : Option Addr) (n cp : Nat) (rv : Value) (a : Int) (p2 p4 : Bool) (ah mu : Nat → Nat → Bool) (V : Nat → Nat) (L : Nat → Bool) (i : Nat) (u : Value) (w : World) : Prop :=
  match i with
  | 0 => u = .agg (relArr V)
  | 1 => u = .pointer (some ⟨g1, 0, none⟩)
  | 4 => u = .pointer (some ⟨g1, 0, none⟩)
  | 2 => u = .slice A n cp
  | 5 => u = .slice A n cp
  | 3 => u = .int .i64 n
  | 6 => u = .int .i64 a
  | 7 => u = rv
  | 8 => ∃ l, Pairs w u l ∧ DocOf p2 p4 ah mu n l
  | 9 => u = .int .i64 1
  | 10 => u = .bool false
  | _ => True
theorem r10_keep {g1 : Nat} {A : Option Addr} {n cp : Nat} {rv : Value} {a : Int} {p2 p4 : Bool} {ah mu : Nat → Nat → Bool} {V : Nat → Nat} {L L2 : Nat → Bool} {i : Nat} {u : Value} {w w' : World} (h : r10 g1 A n cp rv a p2 p4 ah mu V L i u w) (hc : Ch nob w w') : r10 g1 A n cp rv a p2 p4 ah mu V L2 i u w' := by
  unfold r10 at h ⊢
  split
  all_goals first | exact h | exact trivial | skip
  obtain ⟨l, h1, h2⟩ := h
  exact ⟨l, h1.keep hc, h2⟩
set_option maxRecDepth 100000 in
set_option maxHeartbeats 8000000 in
theorem law_leastsees (w : World) (hT : Tab w) (v : Value) (hs : List Txr) (a : Int) (bv : Value) (zs : List Int) (hv : Txns w v hs) (hk : TxnsOk hs) (hL : LensOk hs) (ha : 0 ≤ a ∧ a ≤ 255) (hb : IntsK .u8 w bv zs) (hz : ∀ z ∈ zs, (Lit.int .u8 z).wf = true) :
    Calls Tryd.prog 4 #[.agg #[v, .int .u8 a, bv]] w fun e w' => e = .returned (.bool true) ∧ Below w.heap.size w w' := by
  have HTT := Lib.hid (fun (u : World) (hc : Ch nob w u) => hT.keep hc)
  have HV := Lib.hid (fun (u : World) (hc : Ch nob w u) => hv.keep hc)
  have HSP := Lib.hid (fun (u : World) (hc : Ch nob w u) => speaks11 u (hT.keep hc))
  have HSM := Lib.hid (fun (u : World) (hc : Ch nob w u) => small_law11 u v hs (hv.keep hc) hL)
  have HRW := Lib.hid (fun (u : World) (hc : Ch nob w u) (h7 : hs.length ≤ 7) => row_law11 u hs.length bv zs (hb.keep hc) (fun z h => bounds_u8 (hz z h)) (by omega))
  have HOF := Lib.hid (fun (u : World) (hc : Ch nob w u) (h : smallZ hs = 1) => obj_order u v hs (hv.keep hc) hk (small_ok h).2.2.1 (small_ok h).2.1)
  have HDF := Lib.hid (fun (u : World) (hc : Ch nob w u) (h : smallZ hs = 1) (M : WM) (hM : histF hs hs.length = some M) => docF_of (hv.keep hc) (by have := (small_ok h).1; omega) (small_ok h).2.2.2 (small_ok h).2.2.1 hM)
  have HSO := Lib.hid (fun h => small_ok (hs := hs) h)
  obtain ⟨A, cp, rfl⟩ := hv.shape
  have hp1 := Blk.new w #[.slice A hs.length cp, .int .u8 a, bv] 48
  have hcP : Ch nob w (w.alloc (.cells #[.slice A hs.length cp, .int .u8 a, bv] 48)) := (Ch.refl _ _).alloc _
  clear hT hv hk hL hb hz
  go_enter Tryd.func4, Tryd.ntmps4
  go_wp2_with fail
  generalize w.alloc _ = w1 at hp1 hcP ⊢
  obtain ⟨g1, hg1⟩ : ∃ g, w.heap.size = g := ⟨_, rfl⟩
  have HG1 := Lib.hid hg1
  rw [hg1] at hp1 ⊢
  clear hg1
  refine (HSP.out w1 hcP).mono ?_
  rintro e w2 ⟨rfl, hcA⟩
  have hp2 := hp1.ch hcA (fun h => h)
  have hc2 := hcP.seq hcA
  clear hp1 hcP hcA HSP
  have hq := hp2.cell (i := 0) (v := .slice A hs.length cp) rfl
  go_wp2_with fail
  clear hq
  refine (HSM.out w2 hc2).mono ?_
  rintro e w3 ⟨rfl, hcA⟩
  have hp3 := hp2.ch hcA (fun h => h)
  have hc3 := hc2.seq hcA
  clear hp2 hc2 hcA HSM
  rcases small_cases hs with h0 | h1
  · rw [h0]
    go_wp2_with fail
    go_ret
    exact ⟨rfl, hc3.below⟩
  · rw [h1]
    have H1 := Lib.hid h1
    clear h1
    have hq := hp3.cell (i := 0) (v := .slice A hs.length cp) rfl
    go_wp2_with fail
    clear hq
    refine (HOF.out w3 hc3 H1.out).mono ?_
    rintro e w4 ⟨go, M, S, T, F, R, rfl, hM, hob, hbt, hcA⟩
    have hp4 := hp3.ch hcA (fun h => h)
    have hc4 := hc3.seq hcA
    have HOB := Lib.hid (fun (u : World) (hc : Ch nob w4 u) => hob.keep hc)
    have HBT := Lib.hid hbt
    have HM := Lib.hid hM
    clear hp3 hc3 hcA HOF hob hbt hM
    have hq := hp4.cell (i := 0) (v := .slice A hs.length cp) rfl
    have hq2 := hp4.cell (i := 2) (v := bv) rfl
    go_wp2_with fail
    clear hq hq2
    refine (HRW.out w4 hc4 (HSO.out H1.out).1).mono ?_
    rintro e w5 ⟨rv, row, rfl, hrow, hrok, hcA⟩
    have hp5 := hp4.ch hcA (fun h => h)
    have hc5 := hc4.seq hcA
    have hc45 := hcA
    clear hp4 hcA HRW
    go_wp2_with fail
    have HLS := Lib.hid (fun (u : World) (hc : Ch nob w5 u) => of_least u a go hs.length S T F R rv row (HOB.out u (hc45.seq hc)) (hrow.keep hc) (by rw [hrok.len]; have := (HSO.out H1.out).1; omega) (HTT.out u (hc5.seq hc)))
    have HRK := Lib.hid hrok
    have HROW := Lib.hid (fun (u : World) (hc : Ch nob w5 u) => hrow.keep hc)
    obtain ⟨co, hco⟩ : ∃ co, chainTo row row.length = co := ⟨_, rfl⟩
    have HCO := Lib.hid hco
    rw [hco] at HLS
    obtain ⟨vm, hvm⟩ : ∃ vm, mustR a S T F R co = vm := ⟨_, rfl⟩
    have HVM := Lib.hid hvm
    rw [hvm] at HLS
    have HP5 := Lib.hid hp5
    clear hco hvm hrow hrok hp5
    refine wp_region_led2 (r9 w5 go g1 rv a co vm) (fun _ u => Ch nob w5 u) (by kernel_rfl) (by kernel_rfl) (by rfl) (by kernel_rfl) (Ch.refl _ _).drew ?_ ?_
    · intro i o hi L ac wq hcq hk K hK
      have ht1 : ac.tmps[1]? = some (.pointer (some ⟨g1, 0, none⟩)) := (hk.old 1 (by decide +kernel)).trans rfl
      have ht3 : ac.tmps[3]? = some (.pointer (some ⟨go, 0, none⟩)) := (hk.old 3 (by decide +kernel)).trans rfl
      have ht5 : ac.tmps[5]? = some rv := (hk.old 5 (by decide +kernel)).trans rfl
      have hbq := HP5.out.ch hcq (fun h => h)
      have y1 := hbq.cell (i := 1) (v := .int .u8 a) rfl
      have hwr : IntKind.i64.wrap a = a := IntWalk.i64_in a (by omega)
      have Keep : ∀ v w', i ≠ 11 → Ch nob wq w' → r9 w5 go g1 rv a co vm (mark L i) i v w' → K (ac.put o.dst v) w' := fun v w' hne hc hr => hK v w' (hcq.seq hc) hr (fun j u p s _ _ _ _ _ h => r9_keep h hc (mark_ne (fun e => hne e.symm)))
      match i, hi with
      | 0, hi =>
        cases hi
        exact yld_one (v := .pointer (some ⟨go, 0, none⟩)) (w' := wq) rfl (by go_simp) (Keep _ _ (by decide) (Ch.refl _ _) rfl)
      | 1, hi =>
        cases hi
        exact yld_one (v := .pointer (some ⟨g1, 1, none⟩)) (w' := wq) rfl (by go_simp) (Keep _ _ (by decide) (Ch.refl _ _) rfl)
      | 6, hi =>
        cases hi
        exact yld_one (v := .pointer (some ⟨g1, 1, none⟩)) (w' := wq) rfl (by go_simp) (Keep _ _ (by decide) (Ch.refl _ _) rfl)
      | 2, hi =>
        cases hi
        obtain ⟨v1, h1, h2⟩ := hk.val ⟨1, .data⟩ (by simp) rfl _ 37 rfl rfl
        rw [show v1 = .pointer (some ⟨g1, 1, none⟩) from h2] at h1
        exact yld_one (v := .int .u8 a) (w' := wq) rfl (by go_simp) (Keep _ _ (by decide) (Ch.refl _ _) rfl)
      | 7, hi =>
        cases hi
        obtain ⟨v1, h1, h2⟩ := hk.val ⟨6, .data⟩ (by simp) rfl _ 42 rfl rfl
        rw [show v1 = .pointer (some ⟨g1, 1, none⟩) from h2] at h1
        exact yld_one (v := .int .u8 a) (w' := wq) rfl (by go_simp) (Keep _ _ (by decide) (Ch.refl _ _) rfl)
      | 3, hi =>
        cases hi
        obtain ⟨v1, h1, h2⟩ := hk.val ⟨2, .data⟩ (by simp) rfl _ 38 rfl rfl
        rw [show v1 = .int .u8 a from h2] at h1
        exact yld_one (v := .int .i64 a) (w' := wq) rfl (by go_simp) (Keep _ _ (by decide) (Ch.refl _ _) rfl)
      | 8, hi =>
        cases hi
        obtain ⟨v1, h1, h2⟩ := hk.val ⟨7, .data⟩ (by simp) rfl _ 43 rfl rfl
        rw [show v1 = .int .u8 a from h2] at h1
        exact yld_one (v := .int .i64 a) (w' := wq) rfl (by go_simp) (Keep _ _ (by decide) (Ch.refl _ _) rfl)
      | 4, hi =>
        cases hi
        have e1 := yld_slot ht5
        exact yld_one (v := rv) (w' := wq) rfl (by simp only [execOp, e1]; rfl) (Keep _ _ (by decide) (Ch.refl _ _) rfl)
      | 5, hi =>
        cases hi
        obtain ⟨v1, h1, h2⟩ := hk.val ⟨0, .data⟩ (by simp) rfl _ 36 rfl rfl
        obtain ⟨v2, h3, h4⟩ := hk.val ⟨3, .data⟩ (by simp) rfl _ 39 rfl rfl
        obtain ⟨v3, h5, h6⟩ := hk.val ⟨4, .data⟩ (by simp) rfl _ 40 rfl rfl
        rw [show v1 = .pointer (some ⟨go, 0, none⟩) from h2] at h1
        rw [show v2 = .int .i64 a from h4] at h3
        rw [show v3 = rv from h6] at h5
        have e1 := yld_slot h1
        have e2 := yld_slot h3
        have e3 := yld_slot h5
        refine yld_call (f := 21) (vs := #[.pointer (some ⟨go, 0, none⟩), .int .i64 a, rv]) rfl (by simp only [execOp, Sem.run_bind, Sem.run_pure, Result.andThen_ok, resolve, List.map_toArray, List.map_cons, List.map_nil, e1, e2, e3]; rfl) ?_
        refine (HLS.out wq hcq).mono ?_
        rintro e w' ⟨V, rfl, hl, hcl, hc⟩
        exact ⟨_, rfl, Keep _ _ (by decide) hc ⟨V, rfl, hl, hcl⟩⟩
      | 9, hi =>
        cases hi
        obtain ⟨v1, h1, h2⟩ := hk.val ⟨8, .data⟩ (by simp) rfl _ 44 rfl rfl
        rw [show v1 = .int .i64 a from h2] at h1
        exact yld_one (v := .int .i64 (bits .and .i64 a 63)) (w' := wq) rfl (by go_simp) (Keep _ _ (by decide) (Ch.refl _ _) (by show Value.int .i64 _ = _; rw [six63]))
      | 10, hi =>
        cases hi
        exact yld_one (v := .pointer (some ⟨wq.heap.size, 0, none⟩)) (w' := wq.alloc (.cells (relArr fun _ => 0) 40)) rfl (by go_simp) (Keep _ _ (by decide) ((Ch.refl _ _).alloc _) ⟨_, rfl, hcq.size, fun _ => Blk.new _ _ _, fun h => by
          rw [mark_ne (by decide)] at h
          have := hk.led 11 _ rfl h ⟨10, .data⟩ (by simp) rfl
          rw [hk.new] at this; cases this⟩)
      | 11, hi =>
        cases hi
        obtain ⟨v1, h1, g, h2, hge, hz0, _⟩ := hk.val ⟨10, .data⟩ (by simp) rfl _ 6 rfl rfl
        obtain ⟨v2, h3, V, h4, hl, hcl⟩ := hk.val ⟨5, .data⟩ (by simp) rfl _ 41 rfl rfl
        subst h2 h4
        have hzb := hz0 hk.new
        refine wpList_store_row rfl 40 (.tmp 6) (.tmp 41) rfl g (relArr V) (yld_slot h1) (yld_slot h3) 40 _ hzb (by rw [relArr_size]; kernel_rfl) (by rw [relArr_size, relArr_size]) (relArr_cells _) ?_
        have hst := hzb.row (relArr V)
        have hch := (Ch.refl (· = g) wq).setRow g (relArr V) (fun _ => rfl)
        refine hK undef _ (hcq.fresh hch hge) trivial (fun j u p s hji hLj hp hs hu hr => ?_)
        by_cases e : j = 10
        · subst e
          cases hp
          cases hs
          rw [h1] at hu
          cases hu
          exact ⟨g, rfl, hge, fun h => (by rw [mark_same] at h; cases h), fun _ => ⟨V, hst, hl, hcl⟩⟩
        · unfold r9 at hr ⊢
          split
          all_goals first | exact hr | exact trivial | skip
          exact absurd rfl e
      | 12, hi =>
        cases hi
        obtain ⟨v1, h1, h2⟩ := hk.val ⟨9, .data⟩ (by simp) rfl _ 45 rfl rfl
        rw [show v1 = .int .i64 ((six a : Nat) : Int) from h2] at h1
        exact yld_one (v := .int .i64 ((six a : Nat) : Int)) (w' := wq) rfl (by go_simp) (Keep _ _ (by decide) (Ch.refl _ _) rfl)
      | i + 13, hi => simp at hi
    · intro L vals9 w6 hL hc56 hv9
      obtain ⟨g6, e6, hge6, _, hpost⟩ := hv9 10 _ 6 rfl rfl
      obtain ⟨V, hvb, hlst, hclo⟩ := hpost (hL 11 (by decide))
      have e7 : vals9 12 = .int .i64 ((six a : Nat) : Int) := hv9 12 _ 7 rfl rfl
      clear hv9 hL hpost
      simp only [putAll, Act.put, List.setIfInBounds_toArray, List.set_cons_succ, List.set_cons_zero]
      rw [e6, e7]
      generalize vals9 0 = z36
      generalize vals9 1 = z37
      generalize vals9 2 = z38
      generalize vals9 3 = z39
      generalize vals9 4 = z40
      generalize vals9 5 = z41
      generalize vals9 6 = z42
      generalize vals9 7 = z43
      generalize vals9 8 = z44
      generalize vals9 9 = z45
      clear e6 e7
      have HP6 := Lib.hid (HP5.out.ch hc56 (fun h => h))
      have hc6 := hc5.seq hc56
      have HVB := Lib.hid hvb
      have okV := hlst.ok
      have HX := Lib.hid (fun (l : List IPair) (hd : DocOf (hasI (six a : Nat) 2) (hasI (six a : Nat) 4) (ahB row) (musB (fromB M hs) (sesB hs) (timeB hs) (rivB hs) (six a : Nat) row) hs.length l) => show Is V l from HBT.out.is HRK.out a (by rw [HCO.out, HVM.out]; exact hlst) (by rw [HCO.out]; exact hclo) hd)
      have HROW6 := Lib.hid (fun (u : World) (hc : Ch nob w6 u) => HROW.out u (hc56.seq hc))
      have HOB6 := Lib.hid (fun (u : World) (hc : Ch nob w6 u) => HOB.out u ((hc45.seq hc56).seq hc))
      have HT6 := Lib.hid (fun (u : World) (hc : Ch nob w6 u) => HTT.out u (hc6.seq hc))
      have HDF6 := Lib.hid (fun (u : World) (hc : Ch nob w6 u) => HDF.out u (hc6.seq hc) H1.out M HM.out)
      have hn7 := Lib.hid (HSO.out H1.out).1
      have HSUB := Lib.hid (show ∀ i j, i < 64 → j < 64 → E (baseR (six a : Nat) S T F) i j → E V i j from fun i j hi hj he => by
        refine hlst.sub i j hi hj ?_
        rw [← HVM.out, mustR_bit _ _ _ _ _ _ _ _ hi]
        left
        have h1 := (HBT.out.base (six a : Nat) i j hi hj).1 he
        rw [six_nat _ (six_lt a)] at h1
        exact (HBT.out.base a i j hi hj).2 h1)
      obtain ⟨n, hn2⟩ : ∃ n, hs.length = n := ⟨_, rfl⟩
      have HN := Lib.hid hn2
      rw [hn2] at HX HDF6 HOB6 hn7
      rw [hn2] at HP6
      have HBT2 := HBT.out
      rw [hn2] at HBT2
      have HBB := Lib.hid HBT2
      have HOFD := Lib.hid (fun (u : World) (hc : Ch nob w6 u) => of_ref11 u (.slice A n cp) rv n (fromB M hs) (sesB hs) (timeB hs) (rivB hs) (six a : Nat) row (HDF6.out u hc) (HROW6.out u hc) (by have := six_lt a; omega))
      have HSMX := Lib.hid (fun (u : World) (vv : Value) (l : List IPair) (h2 : Pairs u vv l) (h3 : Is V l) => same_law11 u V okV n vv l (by have := hn7.out; omega) h2 h3)
      obtain ⟨p2, hp2⟩ : ∃ b, hasI (six a : Nat) 2 = b := ⟨_, rfl⟩
      obtain ⟨p4, hp4⟩ : ∃ b, hasI (six a : Nat) 4 = b := ⟨_, rfl⟩
      obtain ⟨ah, hah⟩ : ∃ b, ahB row = b := ⟨_, rfl⟩
      obtain ⟨mu, hmu⟩ : ∃ b, musB (fromB M hs) (sesB hs) (timeB hs) (rivB hs) (six a : Nat) row = b := ⟨_, rfl⟩
      rw [hp2, hp4, hah, hmu] at HX HOFD
      rw [hn2]
      clear hp2 hp4 hah hmu hn2 HBT2 HVM hlst hclo HP5 HLS HROW HOB HDF hvb HV HSO HBT HM HRK hc45 hc56 hc4 HCO HROW6
      go_wp2_with fail
      refine wp_region_led2 (r10 g1 A n cp rv (six a : Nat) p2 p4 ah mu V) (fun _ u => Ch nob w6 u) (by kernel_rfl) (by kernel_rfl) (by rfl) (by kernel_rfl) (Ch.refl _ _).drew ?_ ?_
      · intro i o hi L ac wq hcq hk K hK
        have ht1 : ac.tmps[1]? = some (.pointer (some ⟨g1, 0, none⟩)) := (hk.old 1 (by decide +kernel)).trans rfl
        have ht6 : ac.tmps[6]? = some (.pointer (some ⟨g6, 0, none⟩)) := (hk.old 6 (by decide +kernel)).trans rfl
        have ht7 : ac.tmps[7]? = some (.int .i64 ((six a : Nat) : Int)) := (hk.old 7 (by decide +kernel)).trans rfl
        have ht5 : ac.tmps[5]? = some rv := (hk.old 5 (by decide +kernel)).trans rfl
        have hbq := HP6.out.ch hcq (fun h => h)
        have hvq := HVB.out.ch hcq (fun h => h)
        have y0 := hbq.cell (i := 0) (v := .slice A n cp) rfl
        have Keep : ∀ v w', Ch nob wq w' → r10 g1 A n cp rv (six a : Nat) p2 p4 ah mu V (mark L i) i v w' → K (ac.put o.dst v) w' := fun v w' hc hr => hK v w' (hcq.seq hc) hr (fun j u p s _ _ _ _ _ h => r10_keep h hc)
        match i, hi with
        | 0, hi =>
          cases hi
          have e1 := yld_slot ht6
          refine wpList_load_rowG rfl 40 (.tmp 6) rfl g6 e1 40 (relArr V) (0, 0) _ hvq rfl rfl (by rw [relArr_size]; kernel_rfl) ?_
          exact Keep _ _ (Ch.refl _ _) rfl
        | 1, hi =>
          cases hi
          exact yld_one (v := .pointer (some ⟨g1, 0, none⟩)) (w' := wq) rfl (by go_simp) (Keep _ _ (Ch.refl _ _) rfl)
        | 4, hi =>
          cases hi
          exact yld_one (v := .pointer (some ⟨g1, 0, none⟩)) (w' := wq) rfl (by go_simp) (Keep _ _ (Ch.refl _ _) rfl)
        | 2, hi =>
          cases hi
          obtain ⟨v1, h1, h2⟩ := hk.val ⟨1, .data⟩ (by simp) rfl _ 47 rfl rfl
          rw [show v1 = .pointer (some ⟨g1, 0, none⟩) from h2] at h1
          exact yld_one (v := .slice A n cp) (w' := wq) rfl (by go_simp) (Keep _ _ (Ch.refl _ _) rfl)
        | 5, hi =>
          cases hi
          obtain ⟨v1, h1, h2⟩ := hk.val ⟨4, .data⟩ (by simp) rfl _ 50 rfl rfl
          rw [show v1 = .pointer (some ⟨g1, 0, none⟩) from h2] at h1
          exact yld_one (v := .slice A n cp) (w' := wq) rfl (by go_simp) (Keep _ _ (Ch.refl _ _) rfl)
        | 3, hi =>
          cases hi
          obtain ⟨v1, h1, h2⟩ := hk.val ⟨2, .data⟩ (by simp) rfl _ 48 rfl rfl
          rw [show v1 = .slice A n cp from h2] at h1
          exact yld_one (v := .int .i64 n) (w' := wq) rfl (by go_simp) (Keep _ _ (Ch.refl _ _) rfl)
        | 6, hi =>
          cases hi
          exact yld_one (v := .int .i64 ((six a : Nat) : Int)) (w' := wq) rfl (by go_simp) (Keep _ _ (Ch.refl _ _) rfl)
        | 7, hi =>
          cases hi
          have e1 := yld_slot ht5
          exact yld_one (v := rv) (w' := wq) rfl (by simp only [execOp, e1]; rfl) (Keep _ _ (Ch.refl _ _) rfl)
        | 8, hi =>
          cases hi
          obtain ⟨v1, h1, h2⟩ := hk.val ⟨5, .data⟩ (by simp) rfl _ 51 rfl rfl
          obtain ⟨v2, h3, h4⟩ := hk.val ⟨6, .data⟩ (by simp) rfl _ 52 rfl rfl
          obtain ⟨v3, h5, h6⟩ := hk.val ⟨7, .data⟩ (by simp) rfl _ 53 rfl rfl
          rw [show v1 = .slice A n cp from h2] at h1
          rw [show v2 = .int .i64 ((six a : Nat) : Int) from h4] at h3
          rw [show v3 = rv from h6] at h5
          have e1 := yld_slot h1
          have e2 := yld_slot h3
          have e3 := yld_slot h5
          refine yld_call (f := 26) (vs := #[.slice A n cp, .int .i64 ((six a : Nat) : Int), rv]) rfl (by simp only [execOp, Sem.run_bind, Sem.run_pure, Result.andThen_ok, resolve, List.map_toArray, List.map_cons, List.map_nil, e1, e2, e3]; rfl) ?_
          refine (HOFD.out wq hcq).mono ?_
          rintro e w' ⟨u, l, rfl, hpr, hdo, hc⟩
          exact ⟨_, rfl, Keep _ _ hc ⟨l, hpr, hdo⟩⟩
        | 9, hi =>
          cases hi
          obtain ⟨v1, h1, h2⟩ := hk.val ⟨0, .data⟩ (by simp) rfl _ 46 rfl rfl
          obtain ⟨v2, h3, h4⟩ := hk.val ⟨3, .data⟩ (by simp) rfl _ 49 rfl rfl
          obtain ⟨v3, h5, l, h6, h7⟩ := hk.val ⟨8, .data⟩ (by simp) rfl _ 54 rfl rfl
          rw [show v1 = .agg (relArr V) from h2] at h1
          rw [show v2 = .int .i64 n from h4] at h3
          have e1 := yld_slot h1
          have e2 := yld_slot h3
          have e3 := yld_slot h5
          refine yld_call (f := 25) (vs := #[.agg (relArr V), .int .i64 n, v3]) rfl (by simp only [execOp, Sem.run_bind, Sem.run_pure, Result.andThen_ok, resolve, List.map_toArray, List.map_cons, List.map_nil, e1, e2, e3]; rfl) ?_
          refine (HSMX.out wq v3 l h6 (HX.out l h7)).mono ?_
          rintro e w' ⟨rfl, hc⟩
          exact ⟨_, rfl, Keep _ _ hc rfl⟩
        | 10, hi =>
          cases hi
          obtain ⟨v1, h1, h2⟩ := hk.val ⟨9, .data⟩ (by simp) rfl _ 55 rfl rfl
          rw [show v1 = .int .i64 1 from h2] at h1
          exact yld_one (v := .bool false) (w' := wq) rfl (by go_simp) (Keep _ _ (Ch.refl _ _) rfl)
        | i + 11, hi => simp at hi
      · intro L valsX w7 hL hc67 hvx
        have e10 : valsX 10 = .bool false := hvx 10 _ 56 rfl rfl
        clear hvx hL
        simp only [putAll, Act.put, List.setIfInBounds_toArray, List.set_cons_succ, List.set_cons_zero]
        rw [e10]
        generalize valsX 0 = z46
        generalize valsX 1 = z47
        generalize valsX 2 = z48
        generalize valsX 3 = z49
        generalize valsX 4 = z50
        generalize valsX 5 = z51
        generalize valsX 6 = z52
        generalize valsX 7 = z53
        generalize valsX 8 = z54
        generalize valsX 9 = z55
        clear e10
        have hp7 := HP6.out.ch hc67 (fun h => h)
        have hv7 := HVB.out.ch hc67 (fun h => h)
        have hc7 := hc6.seq hc67
        clear HX HOFD HSMX HP6 HVB
        go_wp2_with fail
        refine (base_least w7 ((six a : Nat) : Int) go n S T F R (HOB6.out w7 hc67)).mono ?_
        rintro e w8 ⟨rfl, hcA⟩
        have hp8 := hp7.ch hcA (fun h => h)
        have hv8 := hv7.ch hcA (fun h => h)
        have hc68 := hc67.seq hcA
        have HOK := Lib.hid (show RelOK (baseR (six a : Nat) S T F) from baseR_ok _ (HOB6.out w6 (Ch.refl _ _)).okS (HOB6.out w6 (Ch.refl _ _)).okT (HOB6.out w6 (Ch.refl _ _)).okF)
        have HBI := Lib.hid (fun (i k : Nat) (hi : i < n) (hk : k < n) => show hasR (baseR (six a : Nat) S T F) (i : Int) (k : Int) = (i != k && (fromB M hs i k || (hasI (six a : Nat) 1 && sesB hs i k) || (hasI (six a : Nat) 32 && timeB hs i k))) from by
          have h64 := HBB.out.hn
          rw [hasR_nat _ _ _ (by omega) (by omega), Bool.eq_iff_iff]
          have h1 := HBB.out.base (six a : Nat) i k (by omega) (by omega)
          rw [six_nat _ (six_lt a)] at h1
          refine h1.trans ?_
          simp only [Bool.and_eq_true, Bool.or_eq_true, bne_iff_ne, ne_eq]
          constructor
          · rintro ⟨_, _, q1, q2 | q2 | q2⟩
            · exact ⟨q1, .inl (.inl q2)⟩
            · exact ⟨q1, .inl (.inr q2)⟩
            · exact ⟨q1, .inr q2⟩
          · rintro ⟨q1, (q2 | q2) | q2⟩
            · exact ⟨hi, hk, q1, .inl q2⟩
            · exact ⟨hi, hk, q1, .inr (.inl q2)⟩
            · exact ⟨hi, hk, q1, .inr (.inr q2)⟩)
        have HW1 := Lib.hid (show withinR (baseR (six a : Nat) S T F) V = true from (withinR_iff _ _ HOK.out).2 HSUB.out)
        have HQ1 := Lib.hid (ask_one (six a) (six_lt a))
        have HQ32 := Lib.hid (ask_32 (six a) (six_lt a))
        obtain ⟨q1, hq1⟩ : ∃ b, hasI (six a : Nat) 1 = b := ⟨_, rfl⟩
        obtain ⟨q32, hq32⟩ : ∃ b, hasI (six a : Nat) 32 = b := ⟨_, rfl⟩
        rw [hq1] at HQ1 HBI
        rw [hq32] at HQ32 HBI
        obtain ⟨B, hB⟩ : ∃ B, baseR (six a : Nat) S T F = B := ⟨_, rfl⟩
        rw [hB] at HOK HBI HW1
        rw [hB]
        have okB := HOK.out
        clear hB hq1 hq32 hp7 hv7 hc67 hcA HSUB HOB6 HBB hc7
        have hn8 := Blk.new w8 (relArr fun _ => 0) 40
        obtain ⟨h8, hcB⟩ := new_row w8 (relArr fun _ => 0) (relArr B) 40
        have hp9 := hp8.ch hcB (fun h => h)
        have hv9 := hv8.ch hcB (fun h => h)
        have hc69 := hc68.seq hcB
        have hcl := hp9.cell (i := 0) (v := .slice A n cp) rfl
        go_wp2_with (refine wpList_store_row rfl 40 (.tmp 8) (.tmp 59) rfl w8.heap.size (relArr B) rfl rfl 40 _ hn8 (by rw [relArr_size]; kernel_rfl) (by rw [relArr_size, relArr_size]) (relArr_cells _) ?_)
        generalize (w8.alloc _).setRow _ _ = w9 at h8 hp9 hv9 hc69 hcl hcB ⊢
        obtain ⟨g8, hg8⟩ : ∃ g, w8.heap.size = g := ⟨_, rfl⟩
        rw [hg8] at h8 ⊢
        clear hg8 hn8 hp8 hv8 hc68 hcl hcB
        go_loopw [63] (fun q wr => ∃ i : Nat, q = .int .i64 i ∧ i ≤ n ∧ Blk wr g1 #[.slice A n cp, .int .u8 a, bv] 48 ∧ Blk wr g6 (relArr V) 40 ∧ Blk wr g8 (relArr B) 40 ∧ Ch nob w6 wr) (fun q _ => n - (intOf q).toNat)
        case atStart => exact ⟨0, rfl, by omega, hp9, hv9, h8, hc69⟩
        case round =>
          clear hp9 hv9 h8 hc69
          obtain ⟨i, rfl, hi, hp, hv, hb, hc⟩ := hrel
          have h7n := hn7.out
          by_cases hlt : i < n
          · have hd : decide ((i : Int) < (n : Int)) = true := decide_eq_true (by omega)
            have hcl := hp.cell (i := 0) (v := .slice A n cp) rfl
            go_wp2_with fail
            clear hcl
            go_loopw [69] (fun q wr => ∃ k : Nat, q = .int .i64 k ∧ k ≤ n ∧ Blk wr g1 #[.slice A n cp, .int .u8 a, bv] 48 ∧ Blk wr g6 (relArr V) 40 ∧ Blk wr g8 (relArr B) 40 ∧ Ch nob w6 wr) (fun q _ => n - (intOf q).toNat)
            case atStart => exact ⟨0, rfl, by omega, hp, hv, hb, hc⟩
            case round =>
              clear hp hv hb hc
              obtain ⟨k, rfl, hk, hp, hv, hb, hc⟩ := hrel
              by_cases hlt2 : k < n
              · have hd2 : decide ((k : Int) < (n : Int)) = true := decide_eq_true (by omega)
                have HF := Lib.hid (fun (u : World) (hc : Ch nob w6 u) => (HDF6.out u hc).frm i k hlt hlt2 u (Ch.refl _ _))
                have HS := Lib.hid (fun (u : World) (hc : Ch nob w6 u) => (HDF6.out u hc).ses i k hlt hlt2 u (Ch.refl _ _))
                have HTM := Lib.hid (fun (u : World) (hc : Ch nob w6 u) => (HDF6.out u hc).tim i k hlt hlt2 u (Ch.refl _ _))
                have HWB := HBI.out i k hlt hlt2
                obtain ⟨b1, hb1⟩ : ∃ b, fromB M hs i k = b := ⟨_, rfl⟩
                obtain ⟨b2, hb2⟩ : ∃ b, sesB hs i k = b := ⟨_, rfl⟩
                obtain ⟨b3, hb3⟩ : ∃ b, timeB hs i k = b := ⟨_, rfl⟩
                rw [hb1] at HF HWB
                rw [hb2] at HS HWB
                rw [hb3] at HTM HWB
                obtain ⟨wt, hwt⟩ : ∃ wt, (i != k && (b1 || (q1 && b2) || (q32 && b3))) = wt := ⟨_, rfl⟩
                rw [hwt] at HWB
                have HWB2 := Lib.hid HWB
                have HWT0 := Lib.hid hwt.symm
                have h64 := hn7.out
                have HSE := Lib.hid (sees_has V i k (by omega) (by omega))
                clear hb1 hb2 hb3 hwt HWB
                go_upto_region 19 with (fail)
                go_cut [11] (fun x wc => x = .bool wt ∧ Blk wc g1 #[.slice A n cp, .int .u8 a, bv] 48 ∧ Blk wc g6 (relArr V) 40 ∧ Blk wc g8 (relArr B) 40 ∧ Ch nob w6 wc)
                case first =>
                  by_cases hik : i = k
                  · have hd3 : ((i : Int) != (k : Int)) = false := by rw [hik]; simp
                    have HWT := Lib.hid (show wt = false from by rw [HWT0.out, hik]; simp)
                    clear hik
                    go_wp2_with fail
                    go_meet
                    exact ⟨wt_is HWT.out, hp, hv, hb, hc⟩
                  · have hd3 : ((i : Int) != (k : Int)) = true := by simp; omega
                    have HWT := Lib.hid (show wt = (b1 || (q1 && b2) || (q32 && b3)) from by
                      rw [HWT0.out, show (i != k) = true from by simp [hik], Bool.true_and])
                    clear hik HWT0 HWB2
                    have hq := hp.cell (i := 0) (v := .slice A n cp) rfl
                    go_wp2_with fail
                    clear hq
                    refine (HF.out wr hc).mono ?_
                    rintro e wF ⟨rfl, hcA⟩
                    have hpF := hp.ch hcA (fun h => h)
                    have hvF := hv.ch hcA (fun h => h)
                    have hbF := hb.ch hcA (fun h => h)
                    have hcF := hc.seq hcA
                    clear hcA hp hv hb hc
                    cases b1
                    case true =>
                      go_wp2_with fail
                      go_meet
                      exact ⟨wt_is HWT.out, hpF, hvF, hbF, hcF⟩
                    case false =>
                      cases h1 : (bits .and .i64 ((six a : Nat) : Int) 1 == 1)
                      case true =>
                        obtain rfl : q1 = true := HQ1.out.symm.trans h1
                        have hq := hpF.cell (i := 0) (v := .slice A n cp) rfl
                        go_wp2_with fail
                        clear hq
                        refine (HS.out wF hcF).mono ?_
                        rintro e wS ⟨rfl, hcA⟩
                        have hpS := hpF.ch hcA (fun h => h)
                        have hvS := hvF.ch hcA (fun h => h)
                        have hbS := hbF.ch hcA (fun h => h)
                        have hcS := hcF.seq hcA
                        clear hcA hpF hvF hbF hcF
                        cases b2
                        case true =>
                          go_wp2_with fail
                          go_meet
                          exact ⟨wt_is HWT.out, hpS, hvS, hbS, hcS⟩
                        case false =>
                          cases h32 : (bits .and .i64 ((six a : Nat) : Int) 32 != 0)
                          case true =>
                            obtain rfl : q32 = true := HQ32.out.symm.trans h32
                            have hq := hpS.cell (i := 0) (v := .slice A n cp) rfl
                            go_wp2_with fail
                            clear hq
                            refine (HTM.out wS hcS).mono ?_
                            rintro e wT ⟨rfl, hcA⟩
                            have hpT := hpS.ch hcA (fun h => h)
                            have hvT := hvS.ch hcA (fun h => h)
                            have hbT := hbS.ch hcA (fun h => h)
                            have hcT := hcS.seq hcA
                            clear hcA hpS hvS hbS hcS
                            cases b3
                            case true =>
                              go_wp2_with fail
                              go_meet
                              exact ⟨wt_is HWT.out, hpT, hvT, hbT, hcT⟩
                            case false =>
                              go_wp2_with fail
                              go_meet
                              exact ⟨wt_is HWT.out, hpT, hvT, hbT, hcT⟩
                          case false =>
                            obtain rfl : q32 = false := HQ32.out.symm.trans h32
                            go_wp2_with fail
                            go_meet
                            exact ⟨wt_is HWT.out, hpS, hvS, hbS, hcS⟩
                      case false =>
                        obtain rfl : q1 = false := HQ1.out.symm.trans h1
                        cases h32 : (bits .and .i64 ((six a : Nat) : Int) 32 != 0)
                        case true =>
                          obtain rfl : q32 = true := HQ32.out.symm.trans h32
                          have hq := hpF.cell (i := 0) (v := .slice A n cp) rfl
                          go_wp2_with fail
                          clear hq
                          refine (HTM.out wF hcF).mono ?_
                          rintro e wT ⟨rfl, hcA⟩
                          have hpT := hpF.ch hcA (fun h => h)
                          have hvT := hvF.ch hcA (fun h => h)
                          have hbT := hbF.ch hcA (fun h => h)
                          have hcT := hcF.seq hcA
                          clear hcA hpF hvF hbF hcF
                          cases b3
                          case true =>
                            go_wp2_with fail
                            go_meet
                            exact ⟨wt_is HWT.out, hpT, hvT, hbT, hcT⟩
                          case false =>
                            go_wp2_with fail
                            go_meet
                            exact ⟨wt_is HWT.out, hpT, hvT, hbT, hcT⟩
                        case false =>
                          obtain rfl : q32 = false := HQ32.out.symm.trans h32
                          go_wp2_with fail
                          go_meet
                          exact ⟨wt_is HWT.out, hpF, hvF, hbF, hcF⟩
                case rest =>
                  obtain ⟨rfl, hpc, hvc, hbc, hcc⟩ := hcut
                  clear hp hv hb hc HF HS HTM HWT0
                  have c1 := Lib.hid (fun (u : Ext wc) => ext_of (has_rel B okB (i : Int) (k : Int) u.val))
                  rw [HWB2.out] at c1
                  have c2 := Lib.hid (fun (u : Ext wc) => ext_of (sees_least u.val V (k : Int) okV (HT6.out u.val (hcc.seq u.ch))))
                  have hlts := seesR_lt V (k : Int)
                  obtain ⟨sk, hsk⟩ : ∃ s, seesR V (k : Int) = s := ⟨_, rfl⟩
                  rw [hsk] at c2 hlts HSE
                  have c3 := Lib.hid (fun (u : Ext wc) => ext_of ((has_set sk (i : Int) u.val hlts).mono (fun e w' h => (⟨h.1, h.2 ▸ Ch.refl _ _⟩ : e = .returned (.bool (hasS sk (i : Int))) ∧ Ch nob u.val w'))))
                  have c4 := Lib.hid (fun (u : Ext wc) => ext_of (has_rel V okV (i : Int) (k : Int) u.val))
                  rw [HSE.out] at c3
                  obtain ⟨hb2, hhb⟩ : ∃ b, hasR V (i : Int) (k : Int) = b := ⟨_, rfl⟩
                  rw [hhb] at c3 c4
                  have e1 := bne_self wt
                  have e2 := bne_self hb2
                  clear hsk hlts hhb HSE HWB2
                  go_wp2_with fail
                  refine wp_region_ch (w0 := wc) (by kernel_rfl) (by kernel_rfl) (Ch.refl _ _) ?_
                  repeat (first
                    | (go_big_quiet_want; refine quiet_load_row 40 (.tmp 8) rfl g8 rfl 40 (relArr B) (by rintro _ ⟨u, rfl⟩; exact Ext.blk hbc u) _ rfl rfl (by rw [relArr_size]; kernel_rfl) ?_; simp only [Act.put, List.setIfInBounds_toArray, List.set_cons_succ, List.set_cons_zero]; go_big_quiet_on)
                    | (go_big_quiet_want; refine quiet_load_row 40 (.tmp 6) rfl g6 rfl 40 (relArr V) (by rintro _ ⟨u, rfl⟩; exact Ext.blk hvc u) _ rfl rfl (by rw [relArr_size]; kernel_rfl) ?_; simp only [Act.put, List.setIfInBounds_toArray, List.set_cons_succ, List.set_cons_zero]; go_big_quiet_on)
                    | go_big_quiet_step (first | (go_at_call_of 31 (Value.agg (relArr B)); exact c1.out _) | (go_at_call_of 31 (Value.agg (relArr V)); exact c4.out _) | (go_at_call 32; exact c2.out _) | (go_at_call 33; exact c3.out _)))
                  refine wpQuiet_nil ?_
                  rintro wq ⟨⟨wq2, hcq⟩, hwq⟩
                  obtain rfl : wq = wq2 := hwq
                  have hpq := hpc.ch hcq (fun h => h)
                  have hvq := hvc.ch hcq (fun h => h)
                  have hbq := hbc.ch hcq (fun h => h)
                  have hcq2 := hcc.seq hcq
                  clear hpc hvc hbc hcc hcq c1 c2 c3 c4
                  go_wp2_with fail
                  go_roundw
                  case rel => exact ⟨k + 1, by go_num, by omega, hpq, hvq, hbq, hcq2⟩
                  case measure => simp [intOf]; omega
              · obtain rfl : k = n := by omega
                have hd2 : decide ((k : Int) < (k : Int)) = false := by simp
                go_wp2_with fail
                go_roundw
                case rel => exact ⟨i + 1, by go_num, by omega, hp, hv, hb, hc⟩
                case measure => simp [intOf]; omega
          · obtain rfl : i = n := by omega
            have hd : decide ((i : Int) < (i : Int)) = false := by simp
            have c5 := Lib.hid (within_rel B V okB okV wr)
            rw [HW1.out] at c5
            have c6 := Lib.hid (fun (u : World) (hc : Ch nob w6 u) => sees_least u V (-1) okV (HT6.out u hc))
            rw [show seesR V (-1) = 0 from rfl] at c6
            go_wp2_with (first
              | (refine wpList_load_rowG rfl 40 (.tmp 8) rfl g8 rfl 40 (relArr B) (0, 0) _ hb rfl rfl (by rw [relArr_size]; kernel_rfl) ?_)
              | (refine wpList_load_rowG rfl 40 (.tmp 6) rfl g6 rfl 40 (relArr V) (0, 0) _ hv rfl rfl (by rw [relArr_size]; kernel_rfl) ?_))
            refine c5.out.mono ?_
            rintro e wz ⟨rfl, hcz⟩
            have hvz := hv.ch hcz (fun h => h)
            have hcz2 := hc.seq hcz
            clear hp hv hb hc hcz c5
            go_wp2_with (first
              | (refine wpList_load_rowG rfl 40 (.tmp 6) rfl g6 rfl 40 (relArr V) (0, 0) _ hvz rfl rfl (by rw [relArr_size]; kernel_rfl) ?_))
            refine (c6.out wz hcz2).mono ?_
            rintro e wy ⟨rfl, hcy⟩
            have hend := hc6.seq (hcz2.seq hcy)
            clear hvz hcz2 hcy
            go_wp2_with fail
            go_ret
            exact ⟨rfl, hend.below⟩
end Go.Proofs.YtlhfpnkfapghoaaDoor
end

section
/- More functions of package level, and of its reference, come to plain numbers and names. No condition but each theorem's own. -/
set_option linter.unusedVariables false
set_option linter.unusedSimpArgs false
namespace Go.Proofs.YtlhfpnkfapghoaaDoor
open Go.RowKit

theorem closed_level (l : Int) (w : World) : Calls Tryd.prog 34 #[.int .i64 l] w fun e w' => e = .returned (.int .i64 (cl (six l))) ∧ w = w' := by
  go_enter Tryd.func34, Tryd.ntmps34
  go_wp2
  all_goals
    go_ret
    exact ⟨ret_int (by rw [← clI_cl]; simp [clI, *]), rfl⟩

theorem asks_ref (l : Int) (w : World) : Calls Tryd.prog 108 #[.int .i64 l] w fun e w' => e = .returned (.int .i64 (asksI l)) ∧ w = w' := by
  rw [asksI_ite]
  go_enter Tryd.func108, Tryd.ntmps108
  go_wp2
  all_goals
    go_ret
    exact ⟨ret_int (by simp [*]), rfl⟩

theorem asks_any (l : Int) (w : World) : Calls Tryd.prog 22 #[.int .i64 l] w fun e w' => e = .returned (.int .i64 (asksI l)) ∧ Ch nob w w' := by
  by_cases h : 0 ≤ l ∧ l < 12
  · have hl : isL l = true := decide_eq_true h
    obtain ⟨h0, h1⟩ := h
    have hix := fun w => index_asks l h0 h1 w
    go_enter Tryd.func22, Tryd.ntmps22
    go_wp2_with fail
    refine (is_level _ _).mono ?_
    rintro e w1 ⟨rfl, rfl⟩
    go_wp2_with fail
    refine (asks_level _).mono ?_
    rintro e w1 ⟨rfl, hc⟩
    go_wp2_with fail
    go_ret
    exact ⟨rfl, hc⟩
  · have hl : isL l = false := decide_eq_false h
    have ho := Lib.hid (asksI_out l h)
    go_enter Tryd.func22, Tryd.ntmps22
    go_wp2_with fail
    refine (is_level _ _).mono ?_
    rintro e w1 ⟨rfl, rfl⟩
    go_wp2_with fail
    go_ret
    exact ⟨ret_int (by rw [ho.out]; rfl), Ch.refl _ _⟩

theorem missing_any (a b : Int) (w : World) : Calls Tryd.prog 112 #[.int .i64 a, .int .i64 b] w fun e w' => e = .returned (.int .i64 (missN a b)) ∧ Ch nob w w' := by
  have hsix := Lib.hid (six_nat (asksI a) (asksI_lt a))
  have hbits := Lib.hid (andNot_small (asksI b) (cl (asksI a)) (asksI_lt b) (cl_lt _))
  go_enter Tryd.func112, Tryd.ntmps112
  go_wp2_with fail
  refine (asks_any _ _).mono ?_
  rintro e w1 ⟨rfl, hc⟩
  go_wp2_with fail
  refine (asks_any _ _).mono ?_
  rintro e w2 ⟨rfl, hc2⟩
  go_wp2_with fail
  refine (closed_level _ _).mono ?_
  rintro e w3 ⟨rfl, rfl⟩
  go_wp2_with fail
  go_ret
  exact ⟨ret_int (by rw [hsix.out]; exact hbits.out), hc.seq hc2⟩
end Go.Proofs.YtlhfpnkfapghoaaDoor
end

section
/- Plain law: who asks more sees as much; what follows of what is asked changes nothing. No condition but each theorem's own. -/
set_option linter.unusedVariables false
set_option linter.unusedSimpArgs false
namespace Go.Proofs.YtlhfpnkfapghoaaDoor
open Go.RowKit

theorem must_mono {x y : Int} (h : ∀ m : Nat, (m = 1 ∨ m = 2 ∨ m = 4 ∨ m = 8 ∨ m = 16 ∨ m = 32) → askB x m = true → askB y m = true) (S T F R co : Nat → Nat) {i j : Nat} (hi : i < 64) (hm : E (mustR x S T F R co) i j) : E (mustR y S T F R co) i j := by
  rw [mustR_bit _ _ _ _ _ _ _ _ hi, baseR_bit _ _ _ _ _ _ hi] at hm ⊢
  rcases hm with (a | ⟨a, b⟩ | ⟨a, b⟩) | ⟨a, b⟩ | ⟨a, b⟩
  · exact .inl (.inl a)
  · exact .inl (.inr (.inl ⟨h _ (by omega) a, b⟩))
  · exact .inl (.inr (.inr ⟨h _ (by omega) a, b⟩))
  · exact .inr (.inl ⟨h _ (by omega) a, b⟩)
  · exact .inr (.inr ⟨h _ (by omega) a, b⟩)
theorem more_sub {x y : Int} (h : ∀ m : Nat, (m = 1 ∨ m = 2 ∨ m = 4 ∨ m = 8 ∨ m = 16 ∨ m = 32) → askB x m = true → askB y m = true) {S T F R co A B : Nat → Nat} (ha : Lst x co (mustR x S T F R co) A) (hb : Lst y co (mustR y S T F R co) B) (hc : Clo y co (E B)) :
    ∀ i j, i < 64 → j < 64 → E A i j → E B i j :=
  ha.least (E B) (fun i j hi hj hm => hb.sub i j hi hj (must_mono h S T F R co hi hm)) ⟨fun h2 => hc.tr (h 2 (by omega) h2), fun h4 => hc.pre (h 4 (by omega) h4)⟩
theorem ask_or {x y : Int} (m : Nat) (h : askB x m = true) (hm : m < 64) : askB (bits .or .i64 x y) m = true := by
  unfold askB at h ⊢
  rw [and_small _ _ hm] at h ⊢
  rw [six_or]
  rw [bne_iff_ne] at h ⊢
  intro e
  apply h
  have e2 : (six x ||| six y) &&& m = 0 := by omega
  rw [Nat.and_or_distrib_right] at e2
  have : six x &&& m = 0 := (Nat.or_eq_zero_iff.1 e2).1
  omega
/-- What follows of what is asked, thing by thing. -/
theorem cl_asks (x : Int) : (askB (cl (six x) : Nat) 1 = (askB x 1 || askB x 32)) ∧ (askB (cl (six x) : Nat) 2 = (askB x 2 || askB x 4 || askB x 16)) ∧ (askB (cl (six x) : Nat) 4 = (askB x 4 || askB x 16)) ∧ (askB (cl (six x) : Nat) 8 = (askB x 8 || askB x 16)) ∧ (askB (cl (six x) : Nat) 16 = askB x 16) ∧ (askB (cl (six x) : Nat) 32 = askB x 32) := by
  have h : ∀ z : Fin 64, (hasI (cl z.val : Nat) 1 = (hasI z.val 1 || hasI z.val 32)) ∧ (hasI (cl z.val : Nat) 2 = (hasI z.val 2 || hasI z.val 4 || hasI z.val 16)) ∧ (hasI (cl z.val : Nat) 4 = (hasI z.val 4 || hasI z.val 16)) ∧ (hasI (cl z.val : Nat) 8 = (hasI z.val 8 || hasI z.val 16)) ∧ (hasI (cl z.val : Nat) 16 = hasI z.val 16) ∧ (hasI (cl z.val : Nat) 32 = hasI z.val 32) := by decide +kernel
  have hz := h ⟨six x, six_lt x⟩
  have hs : six ((cl (six x) : Nat) : Int) = cl (six x) := six_nat _ (cl_lt _)
  rw [ask_has x 1 (by omega), ask_has x 2 (by omega), ask_has x 4 (by omega), ask_has x 8 (by omega), ask_has x 16 (by omega), ask_has x 32 (by omega),
    ask_has _ 1 (by omega), ask_has _ 2 (by omega), ask_has _ 4 (by omega), ask_has _ 8 (by omega), ask_has _ 16 (by omega), ask_has _ 32 (by omega), hs]
  exact hz
theorem closed_sub {x c : Int} (hcx : c = (cl (six x) : Nat)) {S T F R co A D : Nat → Nat} (hST : ∀ i j, i < 64 → j < 64 → E S i j → E T i j) (htr : ∀ i j k, i < 64 → j < 64 → k < 64 → E co i j → E co j k → E co i k)
    (ha : Lst x co (mustR x S T F R co) A) (hca : Clo x co (E A)) (hd : Lst c co (mustR c S T F R co) D) (hw : ∀ i j, i < 64 → j < 64 → E A i j → E co i j) : ∀ i j, i < 64 → j < 64 → E D i j → E A i j := by
  obtain ⟨q1, q2, q4, q8, q16, q32⟩ := cl_asks x
  rw [← hcx] at q1 q2 q4 q8 q16 q32
  have hall : askB x 16 = true → ∀ i j, i < 64 → j < 64 → E co i j → E A i j := fun h i j hi hj he => ha.sub i j hi hj ((mustR_bit _ _ _ _ _ _ _ _ hi).2 (.inr (.inr ⟨h, he⟩)))
  refine hd.least (E A) (fun i j hi hj hm => ?_) ⟨fun h2 i j k hi hj hk e1 e2 => ?_, fun h4 i j k hi hj hk e1 e2 => ?_⟩
  · rw [mustR_bit _ _ _ _ _ _ _ _ hi, baseR_bit _ _ _ _ _ _ hi] at hm
    rcases hm with (a | ⟨a, b⟩ | ⟨a, b⟩) | ⟨a, b, b2⟩ | ⟨a, b⟩
    · exact ha.sub i j hi hj ((mustR_bit _ _ _ _ _ _ _ _ hi).2 (.inl ((baseR_bit _ _ _ _ _ _ hi).2 (.inl a))))
    · rw [q1, Bool.or_eq_true] at a
      rcases a with a | a
      · exact ha.sub i j hi hj ((mustR_bit _ _ _ _ _ _ _ _ hi).2 (.inl ((baseR_bit _ _ _ _ _ _ hi).2 (.inr (.inl ⟨a, b⟩)))))
      · exact ha.sub i j hi hj ((mustR_bit _ _ _ _ _ _ _ _ hi).2 (.inl ((baseR_bit _ _ _ _ _ _ hi).2 (.inr (.inr ⟨a, hST i j hi hj b⟩)))))
    · rw [q32] at a
      exact ha.sub i j hi hj ((mustR_bit _ _ _ _ _ _ _ _ hi).2 (.inl ((baseR_bit _ _ _ _ _ _ hi).2 (.inr (.inr ⟨a, b⟩)))))
    · rw [q8, Bool.or_eq_true] at a
      rcases a with a | a
      · exact ha.sub i j hi hj ((mustR_bit _ _ _ _ _ _ _ _ hi).2 (.inr (.inl ⟨a, b, b2⟩)))
      · exact hall a i j hi hj b
    · rw [q16] at a
      exact hall a i j hi hj b
  · rw [q2, Bool.or_eq_true, Bool.or_eq_true] at h2
    rcases h2 with (h2 | h2) | h2
    · exact hca.tr h2 i j k hi hj hk e1 e2
    · exact hca.pre h2 i j k hi hj hk (hw i j hi hj e1) e2
    · exact hall h2 i k hi hk (htr i j k hi hj hk (hw i j hi hj e1) (hw j k hj hk e2))
  · rw [q4, Bool.or_eq_true] at h4
    rcases h4 with h4 | h4
    · exact hca.pre h4 i j k hi hj hk e1 e2
    · exact hall h4 i k hi hk (htr i j k hi hj hk e1 (hw j k hj hk e2))
theorem cl_moreB (x : Int) (m : Nat) (hm : m = 1 ∨ m = 2 ∨ m = 4 ∨ m = 8 ∨ m = 16 ∨ m = 32) (h : askB x m = true) : askB (cl (six x) : Nat) m = true := by
  obtain ⟨q1, q2, q4, q8, q16, q32⟩ := cl_asks x
  rcases hm with rfl | rfl | rfl | rfl | rfl | rfl
  · rw [q1, h]; rfl
  · rw [q2, h]; rfl
  · rw [q4, h]; rfl
  · rw [q8, h]; rfl
  · rw [q16, h]
  · rw [q32, h]
theorem RowOK.trans {row : List Int} {n : Nat} (h : RowOK row n) (hn : n ≤ 64) (i j k : Nat) (hi : i < 64) (hj : j < 64) (hk : k < 64) (h1 : E (chainTo row row.length) i j) (h2 : E (chainTo row row.length) j k) : E (chainTo row row.length) i k := by
  rw [h.chain hn _ _ hi hj] at h1
  rw [h.chain hn _ _ hj hk] at h2
  rw [h.chain hn _ _ hi hk]
  refine ⟨h1.1, h2.2.1, ?_⟩
  have a := h1.2.2
  have b := h2.2.2
  unfold ahB at a b ⊢
  rw [decide_eq_true_iff] at a b ⊢
  omega
end Go.Proofs.YtlhfpnkfapghoaaDoor
end

section
/- Regions that draw their order, walked with what is over by now in sight, and with what holds of the slots together. No condition. -/
set_option linter.unusedVariables false
set_option linter.unusedSimpArgs false
namespace Go.Proofs.YtlhfpnkfapghoaaDoor
open Go.RowKit

section
variable {P : Program} {Q : Exit → Act → World → Prop}
/-- How far the region has come. -/
structure LInv3 (l : List Oper) (R : (Nat → Bool) → Nat → Value → World → Prop) (I : (Nat → Bool) → Act → World → Prop) (a0 : Act) (listed : Array Bool) (a : Act) (w : World) : Prop where
  lsz : listed.size = l.length
  glob : I (fun j => listed.getD j false) a w
  led : ledB l (fun j => listed.getD j false)
  defs : a.defers = a0.defers
  size : a.tmps.size = a0.tmps.size
  old : ∀ s, (∀ i o, l[i]? = some o → listed.getD i false = true → o.dst ≠ some s) → a.tmps[s]? = a0.tmps[s]?
  val : ∀ i o s, l[i]? = some o → listed.getD i false = true → o.dst = some s → ∃ v, a.tmps[s]? = some v ∧ R (fun j => listed.getD j false) i v w
theorem wp_region_led3 {id : Nat} {a0 : Act} {w0 : World} {l : List Oper} (R : (Nat → Bool) → Nat → Value → World → Prop) (I : (Nat → Bool) → Act → World → Prop) (hm : P.follows .mixedOrders = true) (hd : dstOnce l = true) (hz : dstIn a0.tmps.size l = true) (hb : backA 0 l = true)
    (start : I (fun _ => false) a0 w0.drew)
    (step : ∀ i o, l[i]? = some o → ∀ L a w, I L a w → LKnow l R L a0 i o a w → ∀ K : Act → World → Prop, (∀ v w', I (mark L i) (a.put o.dst v) w' → R (mark L i) i v w' → (∀ j u p s, j ≠ i → L j = true → l[j]? = some p → p.dst = some s → a.tmps[s]? = some u → R L j u w → R (mark L i) j u w') → K (a.put o.dst v) w') → wpList P l.toArray (Exit.then K Q) [o] a w)
    (done : ∀ L vals w', (∀ i, i < l.length → L i = true) → I L (putAll vals 0 l a0) w' → (∀ i o s, l[i]? = some o → o.dst = some s → R L i (vals i) w') → Q .normal (putAll vals 0 l a0) w') : (Code.region id l.toArray true).wp P Q a0 w0 := by
  refine wp_region_any hm ?_
  have hfin : ∀ listed a w, LInv3 l R I a0 listed a w → (∀ i, i < l.length → listed.getD i false = true) → Q .normal a w := fun listed a w inv hall => by
    have hval : ∀ i : Nat, ∃ v : Value, ∀ (o : Oper) (s : Tmp), l[i]? = some o → o.dst = some s → a.tmps[s]? = some v ∧ R (fun j => listed.getD j false) i v w := fun i => by
      cases hi : l[i]? with
      | none => exact ⟨undef, fun o s h => by cases h⟩
      | some o =>
        cases ho : o.dst with
        | none => exact ⟨undef, fun p s h h2 => by cases h; rw [ho] at h2; cases h2⟩
        | some s =>
          obtain ⟨v, h1, h2⟩ := inv.val i o s hi (hall i (List.getElem?_eq_some_iff.1 hi).1) ho
          exact ⟨v, fun p s' h h3 => by cases h; rw [ho] at h3; cases h3; exact ⟨h1, h2⟩⟩
    obtain ⟨vals, hvals⟩ : ∃ vals : Nat → Value, ∀ (i : Nat) (o : Oper) (s : Tmp), l[i]? = some o → o.dst = some s → a.tmps[s]? = some (vals i) ∧ R (fun j => listed.getD j false) i (vals i) w := ⟨fun i => Classical.choose (hval i), fun i => Classical.choose_spec (hval i)⟩
    have e : a = putAll vals 0 l a0 := by
      have ht : a.tmps = (putAll vals 0 l a0).tmps := by
        apply Array.ext_getElem?
        intro s
        by_cases hs : ∃ (i : Nat) (o : Oper), l[i]? = some o ∧ o.dst = some s
        · obtain ⟨i, o, h1, h2⟩ := hs
          have h3 : s < a0.tmps.size := by
            unfold dstIn at hz
            rw [List.all_eq_true] at hz
            have := hz o (List.mem_of_getElem? h1)
            rw [h2] at this
            simpa using this
          rw [(hvals i o s h1 h2).1, putAll_at vals l 0 a0 s i o hd h1 h2 h3, Nat.zero_add]
        · have hno : ∀ o : Oper, o ∈ l → o.dst ≠ some s := fun o ho e => hs (by
            obtain ⟨i, hi⟩ := List.getElem?_of_mem ho
            exact ⟨i, o, hi, e⟩)
          rw [putAll_other vals l 0 a0 s hno]
          exact inv.old s (fun i o hi _ => hno o (List.mem_of_getElem? hi))
      have hdf : a.defers = (putAll vals 0 l a0).defers := by rw [putAll_defers]; exact inv.defs
      obtain ⟨t1, d1⟩ := a
      cases hp : putAll vals 0 l a0 with
      | mk t2 d2 =>
        rw [hp] at ht hdf
        simp only at ht hdf
        rw [ht, hdf]
    rw [e]
    exact done _ vals w hall (e ▸ inv.glob) (fun i o s h1 h2 => (hvals i o s h1 h2).2)
  have hready : ∀ listed a w, LInv3 l R I a0 listed a w → Region.ready .any l.toArray listed = [] → ∀ i, i < l.length → listed.getD i false = true := fun listed a w inv hr => by
    intro i
    induction i using Nat.strongRecOn with
    | ind i ih =>
      intro hi
      cases hl : listed.getD i false with
      | true => rfl
      | false =>
        exfalso
        have hi2 : l[i]? = some l[i] := List.getElem?_eq_getElem hi
        have : i ∈ Region.ready .any l.toArray listed := mem_ready.2 ⟨by
          rw [Array.getD_eq_getD_getElem?, Array.getElem?_eq_getElem (by rw [inv.lsz]; exact hi)] at hl ⊢
          exact hl, l[i], by simp, fun e he hbd => ih e.on (by have := backA_of hb hi2 e he hbd; omega) (by have := backA_of hb hi2 e he hbd; omega)⟩
        rw [hr] at this
        cases this
  have main : ∀ fuel listed a w, LInv3 l R I a0 listed a w → listed.count false ≤ fuel → wpAny P .any l.toArray Q fuel listed a w := by
    intro fuel
    induction fuel with
    | zero =>
      intro listed a w inv hc
      have hall : ∀ i, i < l.length → listed.getD i false = true := fun i hi => by
        cases hl : listed.getD i false with
        | true => rfl
        | false =>
          exfalso
          have h1 : false ∈ listed := by
            rw [Array.getD_eq_getD_getElem?, Array.getElem?_eq_getElem (by rw [inv.lsz]; exact hi), Option.getD_some] at hl
            rw [← hl]; exact Array.getElem_mem _
          have := Array.count_pos_iff.2 h1
          omega
      refine ⟨?_, hfin listed a w inv hall⟩
      apply List.eq_nil_iff_forall_not_mem.2
      intro j hj
      obtain ⟨h1, o, h2, _⟩ := mem_ready.1 hj
      have hj2 : j < l.length := by
        have := (Array.getElem?_eq_some_iff.1 h2).1
        simpa using this
      have := hall j hj2
      rw [Array.getD_eq_getD_getElem?, Array.getElem?_eq_getElem (by rw [inv.lsz]; exact hj2)] at h1 this
      simp at h1 this
      rw [h1] at this
      cases this
    | succ fuel ih =>
      intro listed a w inv hc
      refine ⟨fun hr => hfin listed a w inv (hready listed a w inv hr), fun i hi => ?_⟩
      obtain ⟨h1, o, h2, h3⟩ := mem_ready.1 hi
      have h2' : l[i]? = some o := by simpa using h2
      have hil : i < l.length := (List.getElem?_eq_some_iff.1 h2').1
      have hlt : i < listed.size := by rw [inv.lsz]; exact hil
      have hcur : listed[i] = false := by
        rw [Array.getD_eq_getD_getElem?, Array.getElem?_eq_getElem hlt] at h1
        exact h1
      have emark : (fun j => (listed.setIfInBounds i true).getD j false) = mark (fun j => listed.getD j false) i := by
        funext j
        by_cases e : j = i
        · subst e
          rw [mark_same]
          simp [hlt]
        · rw [mark_ne e, getD_set_ne false (Ne.symm e)]
      refine wpOp_of_list h2 (step i o h2' (fun j => listed.getD j false) a w inv.glob ⟨by rw [Array.getD_eq_getD_getElem?, Array.getElem?_eq_getElem hlt]; exact hcur, inv.led, h3, fun s hs => inv.old s (fun j p hj _ => hs p (List.mem_of_getElem? hj)), fun e he hbd p s hp hs => inv.val e.on p s hp (h3 e he hbd) hs⟩ _ (fun v w' hgl hv hcw => ?_))
      have gset : ∀ j, (listed.setIfInBounds i true).getD j false = true → j = i ∨ listed.getD j false = true := fun j hj => by
        by_cases e : i = j
        · exact .inl e.symm
        · rw [getD_set_ne false e] at hj; exact .inr hj
      have hsz : ∀ s, o.dst = some s → s < a.tmps.size := fun s hs => by
        rw [inv.size]
        unfold dstIn at hz
        rw [List.all_eq_true] at hz
        have := hz o (List.mem_of_getElem? h2')
        rw [hs] at this
        simpa using this
      refine ih _ _ _ ⟨by simpa using inv.lsz, by rw [emark]; exact hgl, ?_, ?_, by rw [put_size]; exact inv.size, fun s hs => ?_, fun j p s hj hlj hp => ?_⟩ ?_
      · intro j p hj hlj e he hbd
        by_cases hji : j = i
        · subst hji
          rw [h2'] at hj
          cases hj
          exact getD_set_true (h3 e he hbd)
        · exact getD_set_true (inv.led j p hj ((gset j hlj).resolve_left hji) e he hbd)
      · have : (a.put o.dst v).defers = a.defers := by unfold Act.put; split <;> rfl
        rw [this]; exact inv.defs
      · rw [put_other (hs i o h2' (by simp [hlt]))]
        refine inv.old s (fun j p hj hlj => hs j p hj (getD_set_true hlj))
      · rw [emark]
        by_cases e : j = i
        · subst e
          rw [h2'] at hj
          cases hj
          rw [hp]
          exact ⟨v, put_same (hsz s hp), hv⟩
        · have hne : o.dst ≠ some s := fun e2 => e (dst_one hd hj h2' hp e2)
          rw [put_other hne]
          obtain ⟨u, hu1, hu2⟩ := inv.val j p s hj ((gset j hlj).resolve_left e) hp
          exact ⟨u, hu1, hcw j u p s e ((gset j hlj).resolve_left e) hj hp hu1 hu2⟩
      · have hcs := Array.count_set (a := true) (b := false) (xs := listed) (i := i) hlt
        rw [show listed.setIfInBounds i true = listed.set i true hlt from by simp [Array.setIfInBounds, hlt]]
        rw [hcs, hcur]
        simp
        omega
  have inv0 : LInv3 l R I a0 (Array.replicate l.toArray.size false) a0 w0.drew := by
    have hno : ∀ i, (Array.replicate l.toArray.size false).getD i false = false := fun i => by
      rw [Array.getD_eq_getD_getElem?]
      by_cases h : i < l.toArray.size
      · simp only [Array.getElem?_replicate]; split <;> rfl
      · simp only [Array.getElem?_replicate]; split <;> rfl
    exact ⟨by simp, (by rw [show (fun j => (Array.replicate l.toArray.size false).getD j false) = (fun _ => false) from funext hno]; exact start), fun j p _ h => (by rw [show (fun j => (Array.replicate l.toArray.size false).getD j false) j = false from hno j] at h; cases h), rfl, rfl, fun s _ => rfl, fun i o s _ h => by rw [hno] at h; cases h⟩
  refine main l.toArray.size _ _ _ inv0 ?_
  simp [Array.count_replicate]
end
end Go.Proofs.YtlhfpnkfapghoaaDoor
end

section
/- The law LeastMore: who asks more sees as much, at least; what follows of what is asked changes nothing. No condition but each theorem's own. -/
set_option linter.unusedVariables false
set_option linter.unusedSimpArgs false
namespace Go.Proofs.YtlhfpnkfapghoaaDoor
open Go.RowKit Go.Maps
attribute [local go_sem ↓] zero_rel

theorem or_u8 (a b : Int) (ha : 0 ≤ a ∧ a ≤ 255) (hb : 0 ≤ b ∧ b ≤ 255) : bits .or .u8 a b = bits .or .i64 a b ∧ 0 ≤ bits .or .u8 a b ∧ bits .or .u8 a b ≤ 255 := by
  obtain ⟨x, rfl⟩ := Int.eq_ofNat_of_zero_le ha.1
  obtain ⟨y, rfl⟩ := Int.eq_ofNat_of_zero_le hb.1
  have hx : x < 256 := by omega
  have hy : y < 256 := by omega
  have h1 : x ||| y < 2 ^ 8 := Nat.or_lt_two_pow (by omega) (by omega)
  have e1 : bits .or .i64 (x : Int) (y : Int) = ((x ||| y : Nat) : Int) := by
    rw [bits_toInt_or, show ((x : Int) % 18446744073709551616).toNat = x by omega, show ((y : Int) % 18446744073709551616).toNat = y by omega]
    exact IntWalk.i64_in _ (by omega)
  have e2 : bits .or .u8 (x : Int) (y : Int) = ((x ||| y : Nat) : Int) := by
    have h2 : bits .or .u8 (x : Int) (y : Int) = IntKind.u8.wrap (((((x : Int) % 256).toNat ||| ((y : Int) % 256).toNat : Nat)) : Int) := by
      simp only [bits, BitVec.toNat_or, BitVec.toNat_ofInt]
      rfl
    rw [h2, show ((x : Int) % 256).toNat = x by omega, show ((y : Int) % 256).toNat = y by omega]
    show ((x ||| y : Nat) : Int) % 256 = _
    omega
  rw [e1, e2]
  exact ⟨rfl, by omega, by omega⟩
theorem put_is {a : Act} {s : Nat} {u v : Value} (h : (a.put (some s) v).tmps[s]? = some u) : u = v := by
  have h2 : (a.tmps.setIfInBounds s v)[s]? = some u := h
  rw [Array.getElem?_setIfInBounds] at h2
  simp at h2
  exact h2.2.symm
/-- The region that draws: two least relations are found, and lie in rows of their own. -/
def r9m (w5 : World) (go g1 : Nat) (rv : Value) (a m y : Int) (co v1 v2 : Nat → Nat) (L : Nat → Bool) (i : Nat) (u : Value) (w : World) : Prop :=
  match i with
  | 0 => u = .pointer (some ⟨go, 0, none⟩)
  | 6 => u = .pointer (some ⟨go, 0, none⟩)
  | 1 => u = .pointer (some ⟨g1, 1, none⟩)
  | 7 => u = .pointer (some ⟨g1, 1, none⟩)
  | 2 => u = .int .u8 a
  | 8 => u = .int .u8 a
  | 9 => u = .int .u8 m
  | 10 => u = .int .u8 y
  | 3 => u = .int .i64 a
  | 11 => u = .int .i64 y
  | 4 => u = rv
  | 12 => u = rv
  | 5 => ∃ V, u = .agg (relArr V) ∧ Lst a co v1 V ∧ Clo a co (E V)
  | 13 => ∃ V, u = .agg (relArr V) ∧ Lst y co v2 V ∧ Clo y co (E V)
  | 14 => ∃ g, u = .pointer (some ⟨g, 0, none⟩) ∧ w5.heap.size ≤ g ∧ (L 16 = false → Blk w g (relArr fun _ => 0) 40) ∧ (L 16 = true → ∃ V, Blk w g (relArr V) 40 ∧ Lst a co v1 V ∧ Clo a co (E V))
  | 15 => ∃ g, u = .pointer (some ⟨g, 0, none⟩) ∧ w5.heap.size ≤ g ∧ (L 17 = false → Blk w g (relArr fun _ => 0) 40) ∧ (L 17 = true → ∃ V, Blk w g (relArr V) 40 ∧ Lst y co v2 V ∧ Clo y co (E V))
  | _ => True
theorem r9m_keep {w5 : World} {go g1 : Nat} {rv : Value} {a m y : Int} {co v1 v2 : Nat → Nat} {L L2 : Nat → Bool} {i : Nat} {u : Value} {w w' : World} (h : r9m w5 go g1 rv a m y co v1 v2 L i u w) (hc : Ch nob w w') (hl : L2 16 = L 16) (hl2 : L2 17 = L 17) : r9m w5 go g1 rv a m y co v1 v2 L2 i u w' := by
  unfold r9m at h ⊢
  split
  all_goals first | exact h | exact trivial | skip
  · obtain ⟨g, h1, h2, h3, h4⟩ := h
    exact ⟨g, h1, h2, fun e => (h3 (hl ▸ e)).ch hc (fun h => h), fun e => by obtain ⟨V, q1, q2⟩ := h4 (hl ▸ e); exact ⟨V, q1.ch hc (fun h => h), q2⟩⟩
  · obtain ⟨g, h1, h2, h3, h4⟩ := h
    exact ⟨g, h1, h2, fun e => (h3 (hl2 ▸ e)).ch hc (fun h => h), fun e => by obtain ⟨V, q1, q2⟩ := h4 (hl2 ▸ e); exact ⟨V, q1.ch hc (fun h => h), q2⟩⟩
/-- What holds of the two rows together. -/
def j9m (w5 : World) (L : Nat → Bool) (ac : Act) (u : World) : Prop :=
  Ch nob w5 u ∧ (L 14 = true → ∀ g, ac.tmps[8]? = some (.pointer (some ⟨g, 0, none⟩)) → g < u.heap.size) ∧ (L 15 = true → ∀ g, ac.tmps[9]? = some (.pointer (some ⟨g, 0, none⟩)) → g < u.heap.size) ∧
  (L 14 = true → L 15 = true → ∀ g h, ac.tmps[8]? = some (.pointer (some ⟨g, 0, none⟩)) → ac.tmps[9]? = some (.pointer (some ⟨h, 0, none⟩)) → g ≠ h)
theorem j9m_put {w5 : World} {L : Nat → Bool} {ac : Act} {u u' : World} {i : Nat} {d : Option Tmp} {v : Value} (h : j9m w5 L ac u) (hc : Ch nob w5 u') (hs : u.heap.size ≤ u'.heap.size) (h8 : d ≠ some 8) (h9 : d ≠ some 9) (h14 : i ≠ 14) (h15 : i ≠ 15) : j9m w5 (mark L i) (ac.put d v) u' := by
  obtain ⟨h0, h1, h2, h3⟩ := h
  unfold j9m
  rw [put_other h8, put_other h9, mark_ne (Ne.symm h14), mark_ne (Ne.symm h15)]
  exact ⟨hc, fun q g e => Nat.lt_of_lt_of_le (h1 q g e) hs, fun q g e => Nat.lt_of_lt_of_le (h2 q g e) hs, h3⟩
set_option maxRecDepth 100000 in
set_option maxHeartbeats 8000000 in
theorem law_leastmore (w : World) (hT : Tab w) (v : Value) (hs : List Txr) (a : Int) (bv : Value) (zs : List Int) (hv : Txns w v hs) (hk : TxnsOk hs) (hL : LensOk hs) (ha : 0 ≤ a ∧ a ≤ 255) (hb : IntsK .u8 w bv zs) (hz : ∀ z ∈ zs, (Lit.int .u8 z).wf = true) (m : Int) (hm : 0 ≤ m ∧ m ≤ 255) :
    Calls Tryd.prog 5 #[.agg #[v, .int .u8 a, bv], .int .u8 m] w fun e w' => e = .returned (.bool true) ∧ Below w.heap.size w w' := by
  have HTT := Lib.hid (fun (u : World) (hc : Ch nob w u) => hT.keep hc)
  have HV := Lib.hid (fun (u : World) (hc : Ch nob w u) => hv.keep hc)
  have HSP := Lib.hid (fun (u : World) (hc : Ch nob w u) => speaks11 u (hT.keep hc))
  have HSM := Lib.hid (fun (u : World) (hc : Ch nob w u) => small_law11 u v hs (hv.keep hc) hL)
  have HRW := Lib.hid (fun (u : World) (hc : Ch nob w u) (h7 : hs.length ≤ 7) => row_law11 u hs.length bv zs (hb.keep hc) (fun z h => bounds_u8 (hz z h)) (by omega))
  have HOF := Lib.hid (fun (u : World) (hc : Ch nob w u) (h : smallZ hs = 1) => obj_order u v hs (hv.keep hc) hk (small_ok h).2.2.1 (small_ok h).2.1)
  have HDF := Lib.hid (fun (u : World) (hc : Ch nob w u) (h : smallZ hs = 1) (M : WM) (hM : histF hs hs.length = some M) => docF_of (hv.keep hc) (by have := (small_ok h).1; omega) (small_ok h).2.2.2 (small_ok h).2.2.1 hM)
  have HSO := Lib.hid (fun h => small_ok (hs := hs) h)
  obtain ⟨A, cp, rfl⟩ := hv.shape
  have hp1 := Blk.new w #[.slice A hs.length cp, .int .u8 a, bv] 48
  have hcP : Ch nob w (w.alloc (.cells #[.slice A hs.length cp, .int .u8 a, bv] 48)) := (Ch.refl _ _).alloc _
  clear hT hv hk hL hb hz
  go_enter Tryd.func5, Tryd.ntmps5
  go_wp2_with fail
  generalize w.alloc _ = w1 at hp1 hcP ⊢
  obtain ⟨g1, hg1⟩ : ∃ g, w.heap.size = g := ⟨_, rfl⟩
  have HG1 := Lib.hid hg1
  rw [hg1] at hp1 ⊢
  clear hg1
  refine (HSP.out w1 hcP).mono ?_
  rintro e w2 ⟨rfl, hcA⟩
  have hp2 := hp1.ch hcA (fun h => h)
  have hc2 := hcP.seq hcA
  clear hp1 hcP hcA HSP
  have hq := hp2.cell (i := 0) (v := .slice A hs.length cp) rfl
  go_wp2_with fail
  clear hq
  refine (HSM.out w2 hc2).mono ?_
  rintro e w3 ⟨rfl, hcA⟩
  have hp3 := hp2.ch hcA (fun h => h)
  have hc3 := hc2.seq hcA
  clear hp2 hc2 hcA HSM
  rcases small_cases hs with h0 | h1
  · rw [h0]
    go_wp2_with fail
    go_ret
    exact ⟨rfl, hc3.below⟩
  · rw [h1]
    have H1 := Lib.hid h1
    clear h1
    have hq := hp3.cell (i := 0) (v := .slice A hs.length cp) rfl
    go_wp2_with fail
    clear hq
    refine (HOF.out w3 hc3 H1.out).mono ?_
    rintro e w4 ⟨go, M, S, T, F, R, rfl, hM, hob, hbt, hcA⟩
    have hp4 := hp3.ch hcA (fun h => h)
    have hc4 := hc3.seq hcA
    have HOB := Lib.hid (fun (u : World) (hc : Ch nob w4 u) => hob.keep hc)
    have HBT := Lib.hid hbt
    have HM := Lib.hid hM
    clear hp3 hc3 hcA HOF hob hbt hM
    have hq := hp4.cell (i := 0) (v := .slice A hs.length cp) rfl
    have hq2 := hp4.cell (i := 2) (v := bv) rfl
    go_wp2_with fail
    clear hq hq2
    refine (HRW.out w4 hc4 (HSO.out H1.out).1).mono ?_
    rintro e w5 ⟨rv, row, rfl, hrow, hrok, hcA⟩
    have hp5 := hp4.ch hcA (fun h => h)
    have hc5 := hc4.seq hcA
    have hc45 := hcA
    clear hp4 hcA HRW
    have hmay := (HSO.out H1.out).2.2.1
    have HST := Lib.hid (show ∀ i j, i < 64 → j < 64 → E S i j → E T i j from fun i j hi hj he => by
      obtain ⟨q1, q2, q3, q4⟩ := (HBT.out.s i j hi hj).1 he
      exact (HBT.out.t i j hi hj).2 ⟨q1, q2, q3, ses_time hmay q1 q2 q4⟩)
    have h64 := HBT.out.hn
    have HTRN := Lib.hid (fun i j k hi hj hk => hrok.trans h64 i j k hi hj hk)
    obtain ⟨hor, hy0⟩ := or_u8 a m ha hm
    have HMR := Lib.hid (show ∀ q : Nat, (q = 1 ∨ q = 2 ∨ q = 4 ∨ q = 8 ∨ q = 16 ∨ q = 32) → askB a q = true → askB (bits .or .u8 a m) q = true from fun q hq h => by rw [hor]; exact ask_or q h (by omega))
    have HCL := Lib.hid (fun (q : Nat) (hq : q = 1 ∨ q = 2 ∨ q = 4 ∨ q = 8 ∨ q = 16 ∨ q = 32) (h : askB a q = true) => cl_moreB a q hq h)
    obtain ⟨y, hy⟩ : ∃ y, bits .or .u8 a m = y := ⟨_, rfl⟩
    rw [hy] at HMR hy0
    have hlen7 := (HSO.out H1.out).1
    have HLS := Lib.hid (fun (x : Int) (u : World) (hc : Ch nob w5 u) => of_least u x go hs.length S T F R rv row (HOB.out u (hc45.seq hc)) (hrow.keep hc) (by rw [hrok.len]; omega) (HTT.out u (hc5.seq hc)))
    have HCN := Lib.hid (fun (u : World) (hc : Ch nob w5 u) => chain_rel rv row u (hrow.keep hc) (by rw [hrok.len]; omega))
    have okc := chainTo_ok row row.length
    obtain ⟨co, hco⟩ : ∃ co, chainTo row row.length = co := ⟨_, rfl⟩
    rw [hco] at HLS HTRN HCN okc
    have HY := Lib.hid hy
    have HP5 := Lib.hid hp5
    clear hco hrow hrok hp5 hmay h64 hor hlen7 hy
    go_wp2_with fail
    refine wp_region_led3 (r9m w5 go g1 rv a m y co (mustR a S T F R co) (mustR y S T F R co)) (j9m w5) (by kernel_rfl) (by kernel_rfl) (by rfl) (by kernel_rfl) ⟨(Ch.refl _ _).drew, fun h => (by cases h), fun h => (by cases h), fun h => (by cases h)⟩ ?_ ?_
    · intro i o hi L ac wq hjq hk K hK
      have hcq := hjq.1
      have ht1 : ac.tmps[1]? = some (.int .u8 m) := (hk.old 1 (by decide +kernel)).trans rfl
      have ht2 : ac.tmps[2]? = some (.pointer (some ⟨g1, 0, none⟩)) := (hk.old 2 (by decide +kernel)).trans rfl
      have ht5 : ac.tmps[5]? = some (.pointer (some ⟨go, 0, none⟩)) := (hk.old 5 (by decide +kernel)).trans rfl
      have ht7 : ac.tmps[7]? = some rv := (hk.old 7 (by decide +kernel)).trans rfl
      have hbq := HP5.out.ch hcq (fun h => h)
      have y1 := hbq.cell (i := 1) (v := .int .u8 a) rfl
      have hwr : IntKind.i64.wrap a = a := IntWalk.i64_in a (by omega)
      have hwy : IntKind.i64.wrap y = y := IntWalk.i64_in y (by omega)
      have Keep : ∀ v w', i ≠ 14 → i ≠ 15 → i ≠ 16 → i ≠ 17 → o.dst ≠ some 8 → o.dst ≠ some 9 → Ch nob wq w' → r9m w5 go g1 rv a m y co (mustR a S T F R co) (mustR y S T F R co) (mark L i) i v w' → K (ac.put o.dst v) w' := fun v w' n1 n2 n3 n4 d8 d9 hc hr =>
        hK v w' (j9m_put hjq (hcq.seq hc) hc.size d8 d9 n1 n2) hr (fun j u p s _ _ _ _ _ h => r9m_keep h hc (mark_ne (Ne.symm n3)) (mark_ne (Ne.symm n4)))
      match i, hi with
      | 0, hi =>
        cases hi
        exact yld_one (v := .pointer (some ⟨go, 0, none⟩)) (w' := wq) rfl (by go_simp) (Keep _ _ (by decide) (by decide) (by decide) (by decide) (by decide) (by decide) (Ch.refl _ _) rfl)
      | 6, hi =>
        cases hi
        exact yld_one (v := .pointer (some ⟨go, 0, none⟩)) (w' := wq) rfl (by go_simp) (Keep _ _ (by decide) (by decide) (by decide) (by decide) (by decide) (by decide) (Ch.refl _ _) rfl)
      | 1, hi =>
        cases hi
        exact yld_one (v := .pointer (some ⟨g1, 1, none⟩)) (w' := wq) rfl (by go_simp) (Keep _ _ (by decide) (by decide) (by decide) (by decide) (by decide) (by decide) (Ch.refl _ _) rfl)
      | 7, hi =>
        cases hi
        exact yld_one (v := .pointer (some ⟨g1, 1, none⟩)) (w' := wq) rfl (by go_simp) (Keep _ _ (by decide) (by decide) (by decide) (by decide) (by decide) (by decide) (Ch.refl _ _) rfl)
      | 2, hi =>
        cases hi
        obtain ⟨v1, h1, h2⟩ := hk.val ⟨1, .data⟩ (by simp) rfl _ 36 rfl rfl
        rw [show v1 = .pointer (some ⟨g1, 1, none⟩) from h2] at h1
        exact yld_one (v := .int .u8 a) (w' := wq) rfl (by go_simp) (Keep _ _ (by decide) (by decide) (by decide) (by decide) (by decide) (by decide) (Ch.refl _ _) rfl)
      | 8, hi =>
        cases hi
        obtain ⟨v1, h1, h2⟩ := hk.val ⟨7, .data⟩ (by simp) rfl _ 42 rfl rfl
        rw [show v1 = .pointer (some ⟨g1, 1, none⟩) from h2] at h1
        exact yld_one (v := .int .u8 a) (w' := wq) rfl (by go_simp) (Keep _ _ (by decide) (by decide) (by decide) (by decide) (by decide) (by decide) (Ch.refl _ _) rfl)
      | 3, hi =>
        cases hi
        obtain ⟨v1, h1, h2⟩ := hk.val ⟨2, .data⟩ (by simp) rfl _ 37 rfl rfl
        rw [show v1 = .int .u8 a from h2] at h1
        exact yld_one (v := .int .i64 a) (w' := wq) rfl (by go_simp) (Keep _ _ (by decide) (by decide) (by decide) (by decide) (by decide) (by decide) (Ch.refl _ _) rfl)
      | 9, hi =>
        cases hi
        exact yld_one (v := .int .u8 m) (w' := wq) rfl (by go_simp) (Keep _ _ (by decide) (by decide) (by decide) (by decide) (by decide) (by decide) (Ch.refl _ _) rfl)
      | 10, hi =>
        cases hi
        obtain ⟨v1, h1, h2⟩ := hk.val ⟨8, .data⟩ (by simp) rfl _ 43 rfl rfl
        obtain ⟨v2, h3, h4⟩ := hk.val ⟨9, .data⟩ (by simp) rfl _ 44 rfl rfl
        rw [show v1 = .int .u8 a from h2] at h1
        rw [show v2 = .int .u8 m from h4] at h3
        exact yld_one (v := .int .u8 (bits .or .u8 a m)) (w' := wq) rfl (by go_simp) (Keep _ _ (by decide) (by decide) (by decide) (by decide) (by decide) (by decide) (Ch.refl _ _) (by show Value.int .u8 _ = _; rw [HY.out]))
      | 11, hi =>
        cases hi
        obtain ⟨v1, h1, h2⟩ := hk.val ⟨10, .data⟩ (by simp) rfl _ 45 rfl rfl
        rw [show v1 = .int .u8 y from h2] at h1
        exact yld_one (v := .int .i64 y) (w' := wq) rfl (by go_simp) (Keep _ _ (by decide) (by decide) (by decide) (by decide) (by decide) (by decide) (Ch.refl _ _) rfl)
      | 4, hi =>
        cases hi
        have e1 := yld_slot ht7
        exact yld_one (v := rv) (w' := wq) rfl (by simp only [execOp, e1]; rfl) (Keep _ _ (by decide) (by decide) (by decide) (by decide) (by decide) (by decide) (Ch.refl _ _) rfl)
      | 12, hi =>
        cases hi
        have e1 := yld_slot ht7
        exact yld_one (v := rv) (w' := wq) rfl (by simp only [execOp, e1]; rfl) (Keep _ _ (by decide) (by decide) (by decide) (by decide) (by decide) (by decide) (Ch.refl _ _) rfl)
      | 5, hi =>
        cases hi
        obtain ⟨v1, h1, h2⟩ := hk.val ⟨0, .data⟩ (by simp) rfl _ 35 rfl rfl
        obtain ⟨v2, h3, h4⟩ := hk.val ⟨3, .data⟩ (by simp) rfl _ 38 rfl rfl
        obtain ⟨v3, h5, h6⟩ := hk.val ⟨4, .data⟩ (by simp) rfl _ 39 rfl rfl
        rw [show v1 = .pointer (some ⟨go, 0, none⟩) from h2] at h1
        rw [show v2 = .int .i64 a from h4] at h3
        rw [show v3 = rv from h6] at h5
        have e1 := yld_slot h1
        have e2 := yld_slot h3
        have e3 := yld_slot h5
        refine yld_call (f := 21) (vs := #[.pointer (some ⟨go, 0, none⟩), .int .i64 a, rv]) rfl (by simp only [execOp, Sem.run_bind, Sem.run_pure, Result.andThen_ok, resolve, List.map_toArray, List.map_cons, List.map_nil, e1, e2, e3]; rfl) ?_
        refine (HLS.out a wq hcq).mono ?_
        rintro e w' ⟨V, rfl, hl, hcl, hc⟩
        exact ⟨_, rfl, Keep _ _ (by decide) (by decide) (by decide) (by decide) (by decide) (by decide) hc ⟨V, rfl, hl, hcl⟩⟩
      | 13, hi =>
        cases hi
        obtain ⟨v1, h1, h2⟩ := hk.val ⟨6, .data⟩ (by simp) rfl _ 41 rfl rfl
        obtain ⟨v2, h3, h4⟩ := hk.val ⟨11, .data⟩ (by simp) rfl _ 46 rfl rfl
        obtain ⟨v3, h5, h6⟩ := hk.val ⟨12, .data⟩ (by simp) rfl _ 47 rfl rfl
        rw [show v1 = .pointer (some ⟨go, 0, none⟩) from h2] at h1
        rw [show v2 = .int .i64 y from h4] at h3
        rw [show v3 = rv from h6] at h5
        have e1 := yld_slot h1
        have e2 := yld_slot h3
        have e3 := yld_slot h5
        refine yld_call (f := 21) (vs := #[.pointer (some ⟨go, 0, none⟩), .int .i64 y, rv]) rfl (by simp only [execOp, Sem.run_bind, Sem.run_pure, Result.andThen_ok, resolve, List.map_toArray, List.map_cons, List.map_nil, e1, e2, e3]; rfl) ?_
        refine (HLS.out y wq hcq).mono ?_
        rintro e w' ⟨V, rfl, hl, hcl, hc⟩
        exact ⟨_, rfl, Keep _ _ (by decide) (by decide) (by decide) (by decide) (by decide) (by decide) hc ⟨V, rfl, hl, hcl⟩⟩
      | 14, hi =>
        cases hi
        have hcn : Ch nob wq (wq.alloc (.cells (relArr fun _ => 0) 40)) := (Ch.refl _ _).alloc _
        have hsz : (wq.alloc (.cells (relArr fun _ => 0) 40)).heap.size = wq.heap.size + 1 := by simp
        refine yld_one (v := .pointer (some ⟨wq.heap.size, 0, none⟩)) (w' := wq.alloc (.cells (relArr fun _ => 0) 40)) rfl (by go_simp) (hK _ _ ⟨hcq.seq hcn, fun _ g e => ?_, fun h g e => ?_, fun _ h g g2 e e2 => ?_⟩ ⟨_, rfl, hcq.size, fun _ => Blk.new _ _ _, fun h => ?_⟩ (fun j u p s _ _ _ _ _ h => r9m_keep h hcn (mark_ne (by decide)) (mark_ne (by decide))))
        · have := put_is e
          simp at this
          omega
        · rw [put_other (by decide)] at e
          rw [mark_ne (by decide)] at h
          have := hjq.2.2.1 h g e
          omega
        · rw [put_other (by decide)] at e2
          rw [mark_ne (by decide)] at h
          have h3 := hjq.2.2.1 h g2 e2
          have := put_is e
          simp at this
          omega
        · rw [mark_ne (by decide)] at h
          have := hk.led 16 _ rfl h ⟨14, .data⟩ (by simp) rfl
          rw [hk.new] at this; cases this
      | 15, hi =>
        cases hi
        have hcn : Ch nob wq (wq.alloc (.cells (relArr fun _ => 0) 40)) := (Ch.refl _ _).alloc _
        have hsz : (wq.alloc (.cells (relArr fun _ => 0) 40)).heap.size = wq.heap.size + 1 := by simp
        refine yld_one (v := .pointer (some ⟨wq.heap.size, 0, none⟩)) (w' := wq.alloc (.cells (relArr fun _ => 0) 40)) rfl (by go_simp) (hK _ _ ⟨hcq.seq hcn, fun h g e => ?_, fun _ g e => ?_, fun h _ g g2 e e2 => ?_⟩ ⟨_, rfl, hcq.size, fun _ => Blk.new _ _ _, fun h => ?_⟩ (fun j u p s _ _ _ _ _ h => r9m_keep h hcn (mark_ne (by decide)) (mark_ne (by decide))))
        · rw [put_other (by decide)] at e
          rw [mark_ne (by decide)] at h
          have := hjq.2.1 h g e
          omega
        · have := put_is e
          simp at this
          omega
        · rw [put_other (by decide)] at e
          rw [mark_ne (by decide)] at h
          have h3 := hjq.2.1 h g e
          have := put_is e2
          simp at this
          omega
        · rw [mark_ne (by decide)] at h
          have := hk.led 17 _ rfl h ⟨15, .data⟩ (by simp) rfl
          rw [hk.new] at this; cases this
      | 16, hi =>
        cases hi
        obtain ⟨v1, h1, g, h2, hge, hz0, _⟩ := hk.val ⟨14, .data⟩ (by simp) rfl _ 8 rfl rfl
        obtain ⟨v2, h3, V, h4, hl, hcl⟩ := hk.val ⟨5, .data⟩ (by simp) rfl _ 40 rfl rfl
        subst h2 h4
        have hzb := hz0 hk.new
        have hw14 := hk.wait ⟨14, .data⟩ (by simp) rfl
        refine wpList_store_row rfl 40 (.tmp 8) (.tmp 40) rfl g (relArr V) (yld_slot h1) (yld_slot h3) 40 _ hzb (by rw [relArr_size]; kernel_rfl) (by rw [relArr_size, relArr_size]) (relArr_cells _) ?_
        have hst := hzb.row (relArr V)
        have hch := (Ch.refl (· = g) wq).setRow g (relArr V) (fun _ => rfl)
        refine hK undef _ (j9m_put hjq (hcq.fresh hch hge) hch.size (by decide) (by decide) (by decide) (by decide)) trivial (fun j u p s hji hLj hp hs hu hr => ?_)
        by_cases e : j = 14
        · subst e
          cases hp
          cases hs
          rw [h1] at hu
          cases hu
          exact ⟨g, rfl, hge, fun h => (by rw [mark_same] at h; cases h), fun _ => ⟨V, hst, hl, hcl⟩⟩
        · by_cases e2 : j = 15
          · subst e2
            cases hp
            cases hs
            obtain ⟨g2, q1, q2, q3, q4⟩ := hr
            subst q1
            have hne := hjq.2.2.2 hw14 hLj g g2 h1 hu
            exact ⟨g2, rfl, q2, fun h => (q3 (by rw [mark_ne (by decide)] at h; exact h)).ch hch (fun e => hne e.symm), fun h => by
              obtain ⟨V2, z1, z2⟩ := q4 (by rw [mark_ne (by decide)] at h; exact h)
              exact ⟨V2, z1.ch hch (fun e => hne e.symm), z2⟩⟩
          · unfold r9m at hr ⊢
            split
            all_goals first | exact hr | exact trivial | skip
            · exact absurd rfl e
            · exact absurd rfl e2
      | 17, hi =>
        cases hi
        obtain ⟨v1, h1, g, h2, hge, hz0, _⟩ := hk.val ⟨15, .data⟩ (by simp) rfl _ 9 rfl rfl
        obtain ⟨v2, h3, V, h4, hl, hcl⟩ := hk.val ⟨13, .data⟩ (by simp) rfl _ 48 rfl rfl
        subst h2 h4
        have hzb := hz0 hk.new
        have hw15 := hk.wait ⟨15, .data⟩ (by simp) rfl
        refine wpList_store_row rfl 40 (.tmp 9) (.tmp 48) rfl g (relArr V) (yld_slot h1) (yld_slot h3) 40 _ hzb (by rw [relArr_size]; kernel_rfl) (by rw [relArr_size, relArr_size]) (relArr_cells _) ?_
        have hst := hzb.row (relArr V)
        have hch := (Ch.refl (· = g) wq).setRow g (relArr V) (fun _ => rfl)
        refine hK undef _ (j9m_put hjq (hcq.fresh hch hge) hch.size (by decide) (by decide) (by decide) (by decide)) trivial (fun j u p s hji hLj hp hs hu hr => ?_)
        by_cases e : j = 15
        · subst e
          cases hp
          cases hs
          rw [h1] at hu
          cases hu
          exact ⟨g, rfl, hge, fun h => (by rw [mark_same] at h; cases h), fun _ => ⟨V, hst, hl, hcl⟩⟩
        · by_cases e2 : j = 14
          · subst e2
            cases hp
            cases hs
            obtain ⟨g2, q1, q2, q3, q4⟩ := hr
            subst q1
            have hne := hjq.2.2.2 hLj hw15 g2 g hu h1
            exact ⟨g2, rfl, q2, fun h => (q3 (by rw [mark_ne (by decide)] at h; exact h)).ch hch (fun e => hne e), fun h => by
              obtain ⟨V2, z1, z2⟩ := q4 (by rw [mark_ne (by decide)] at h; exact h)
              exact ⟨V2, z1.ch hch (fun e => hne e), z2⟩⟩
          · unfold r9m at hr ⊢
            split
            all_goals first | exact hr | exact trivial | skip
            · exact absurd rfl e2
            · exact absurd rfl e
      | i + 18, hi => simp at hi
    · intro L vals9 w6 hL hj6 hv9
      obtain ⟨g8, e8, hge8, _, hpost8⟩ := hv9 14 _ 8 rfl rfl
      obtain ⟨g9, e9, hge9, _, hpost9⟩ := hv9 15 _ 9 rfl rfl
      obtain ⟨V1, hb1, hl1, hc1⟩ := hpost8 (hL 16 (by decide))
      obtain ⟨V2, hb2, hl2, hc2⟩ := hpost9 (hL 17 (by decide))
      have hc56 := hj6.1
      clear hv9 hL hpost8 hpost9 hj6
      simp only [putAll, Act.put, List.setIfInBounds_toArray, List.set_cons_succ, List.set_cons_zero]
      rw [e8, e9]
      generalize vals9 0 = z0
      generalize vals9 1 = z1
      generalize vals9 2 = z2
      generalize vals9 3 = z3
      generalize vals9 4 = z4
      generalize vals9 5 = z5
      generalize vals9 6 = z6
      generalize vals9 7 = z7
      generalize vals9 8 = z8
      generalize vals9 9 = z9
      generalize vals9 10 = z10
      generalize vals9 11 = z11
      generalize vals9 12 = z12
      generalize vals9 13 = z13
      clear e8 e9
      have ok1 := hl1.ok
      have ok2 := hl2.ok
      have HWI := Lib.hid (show withinR V1 V2 = true from (withinR_iff V1 V2 ok1).2 (more_sub HMR.out hl1 hl2 hc2))
      have hp6 := HP5.out.ch hc56 (fun h => h)
      have c1 := Lib.hid (within_rel V1 V2 ok1 ok2 w6)
      rw [HWI.out] at c1
      have HL1 := Lib.hid hl1
      have HC1 := Lib.hid hc1
      have hc6 := hc5.seq hc56
      clear hl1 hc1 hl2 hc2 HWI HMR HP5
      go_wp2_with (first
        | (refine wpList_load_rowG rfl 40 (.tmp 8) rfl g8 rfl 40 (relArr V1) (0, 0) _ hb1 rfl rfl (by rw [relArr_size]; kernel_rfl) ?_)
        | (refine wpList_load_rowG rfl 40 (.tmp 9) rfl g9 rfl 40 (relArr V2) (0, 0) _ hb2 rfl rfl (by rw [relArr_size]; kernel_rfl) ?_))
      refine c1.out.mono ?_
      rintro e w7 ⟨rfl, hcA⟩
      have hp7 := hp6.ch hcA (fun h => h)
      have hb7 := hb1.ch hcA (fun h => h)
      have hc57 := hc56.seq hcA
      have y1 := hp7.cell (i := 1) (v := .int .u8 a) rfl
      have hwr : IntKind.i64.wrap a = a := IntWalk.i64_in a (by omega)
      clear hp6 hb1 hb2 hc56 hcA c1 hc6
      go_wp2_with fail
      refine (closed_level a w7).mono ?_
      rintro e _ ⟨rfl, rfl⟩
      clear y1 hp7
      go_wp2_with fail
      refine (HLS.out (cl (six a) : Nat) w7 hc57).mono ?_
      rintro e w8 ⟨D, rfl, hlD, hcD, hcA⟩
      have hb8 := hb7.ch hcA (fun h => h)
      have hc58 := hc57.seq hcA
      have okD := hlD.ok
      have HEQ := Lib.hid (show withinR V1 co = true → eqR V1 D = true from fun h => by
        have hw := (withinR_iff V1 co ok1).1 h
        have h1 := more_sub HCL.out HL1.out hlD hcD
        have h2 := closed_sub rfl HST.out HTRN.out HL1.out HC1.out hlD hw
        rw [eqR_iff]
        exact rel_ext ok1 okD fun i j hi hj => ⟨h1 i j hi hj, h2 i j hi hj⟩)
      clear hb7 hc57 hcA hlD hcD HL1 HC1 HLS HCL HST HTRN
      have hn10 := Blk.new w8 (relArr fun _ => 0) 40
      obtain ⟨h10, hcB⟩ := new_row w8 (relArr fun _ => 0) (relArr D) 40
      have hb9 := hb8.ch hcB (fun h => h)
      have hc59 := hc58.seq hcB
      go_upto_region 13 with (refine wpList_store_row rfl 40 (.tmp 10) (.tmp 59) rfl w8.heap.size (relArr D) rfl rfl 40 _ hn10 (by rw [relArr_size]; kernel_rfl) (by rw [relArr_size, relArr_size]) (relArr_cells _) ?_)
      simp only [Act.put, List.setIfInBounds_toArray, List.set_cons_succ, List.set_cons_zero]
      generalize (w8.alloc _).setRow _ _ = w9 at h10 hb9 hc59 hcB ⊢
      obtain ⟨g10, hg10⟩ : ∃ g, w8.heap.size = g := ⟨_, rfl⟩
      rw [hg10] at h10 ⊢
      clear hg10 hn10 hb8 hc58 hcB
      have HCH := Lib.hid (fun (u : Ext w9) => ext_of (HCN.out u.val (hc59.seq u.ch)))
      have HWN := Lib.hid (fun (u : Ext w9) => ext_of (within_rel V1 co ok1 okc u.val))
      have hq1 := fun u => eql_rel V1 D u
      obtain ⟨b, hb⟩ : ∃ b, withinR V1 co = b := ⟨_, rfl⟩
      rw [hb] at HWN HEQ
      clear hb
      cases b with
      | false =>
        clear HEQ
        go_wp2_with fail
        refine wp_region_ch (w0 := w9) (by kernel_rfl) (by kernel_rfl) (Ch.refl _ _) ?_
        repeat (first
          | (go_big_quiet_want; refine quiet_load_row 40 (.tmp 8) rfl g8 rfl 40 (relArr V1) (by rintro _ ⟨u, rfl⟩; exact Ext.blk hb9 u) _ rfl rfl (by rw [relArr_size]; kernel_rfl) ?_; simp only [Act.put, List.setIfInBounds_toArray, List.set_cons_succ, List.set_cons_zero]; go_big_quiet_on)
          | go_big_quiet_step (first | (go_at_call 35; exact HCH.out _) | (go_at_call 23; exact HWN.out _)))
        refine wpQuiet_nil ?_
        rintro wq ⟨⟨_, hcq⟩, rfl⟩
        have hend := (hc5.seq hc59).seq hcq
        go_wp2_with fail
        go_ret
        exact ⟨rfl, hend.below⟩
      | true =>
        have he := HEQ.out rfl
        rw [he] at hq1
        clear HEQ he
        go_wp2_with fail
        refine wp_region_ch (w0 := w9) (by kernel_rfl) (by kernel_rfl) (Ch.refl _ _) ?_
        repeat (first
          | (go_big_quiet_want; refine quiet_load_row 40 (.tmp 8) rfl g8 rfl 40 (relArr V1) (by rintro _ ⟨u, rfl⟩; exact Ext.blk hb9 u) _ rfl rfl (by rw [relArr_size]; kernel_rfl) ?_; simp only [Act.put, List.setIfInBounds_toArray, List.set_cons_succ, List.set_cons_zero]; go_big_quiet_on)
          | (go_big_quiet_want; refine quiet_load_row 40 (.tmp 10) rfl g10 rfl 40 (relArr D) (by rintro _ ⟨u, rfl⟩; exact Ext.blk h10 u) _ rfl rfl (by rw [relArr_size]; kernel_rfl) ?_; simp only [Act.put, List.setIfInBounds_toArray, List.set_cons_succ, List.set_cons_zero]; go_big_quiet_on)
          | go_big_quiet_step (first | (go_at_call 35; exact HCH.out _) | (go_at_call 23; exact HWN.out _)))
        refine wpQuiet_nil ?_
        rintro wq ⟨⟨_, hcq⟩, rfl⟩
        have hend := (hc5.seq hc59).seq hcq
        go_wp2_with fail
        go_ret
        exact ⟨rfl, hend.below⟩
end Go.Proofs.YtlhfpnkfapghoaaDoor
end
