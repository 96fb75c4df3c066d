/- The law HistoryCopies: a copy is the same, and apart. No condition but each theorem's own. -/
import Derived.Test.YtobfanodjdkkoaaHistSm
import Derived.Test.YtobfanodjdkkoaaTail
import Derived.OpenShut
set_option linter.unusedVariables false
set_option linter.unusedSimpArgs false
namespace Go.Proofs.Ytobfanodjdkkoaa
open Go.RowKit Go.Maps

theorem own_add (g k : Nat) : (⟨g, 0, none⟩ : Addr).add k = ⟨g, k, none⟩ := by unfold Addr.add; split <;> simp_all
/-- A row of transactions, from its cells. -/
theorem txns_mk {w : World} {g n cap : Nat} {hs : List Txr} {U : Nat → Value} (hlen : hs.length = n) (hcap : n ≤ cap ∧ n ≤ 9223372036854775807)
    (h : ∀ j, j < n → w.cell? ⟨g, j * 4, none⟩ = some (.int .i64 (hs.getD j txrZero).ses) ∧ w.cell? ⟨g, j * 4 + 1, none⟩ = some (.int .i64 (hs.getD j txrZero).beg) ∧ w.cell? ⟨g, j * 4 + 2, none⟩ = some (.int .i64 (hs.getD j txrZero).com) ∧ w.cell? ⟨g, j * 4 + 3, none⟩ = some (U j) ∧ Opl w (U j) (hs.getD j txrZero).ops) : Txns w (.slice (some ⟨g, 0, none⟩) n cap) hs := by
  subst hlen
  refine ⟨_, _, rfl, hcap, fun _ => ⟨_, rfl, fun j hj => ⟨U j, ?_⟩⟩⟩
  rw [own_add]
  exact h j hj
theorem getD_setT (hs : List Txr) (t : Txr) (at_ j : Nat) (h : at_ < hs.length) : (hs.set at_ t).getD j txrZero = if j = at_ then t else hs.getD j txrZero := by
  rw [List.getD_eq_getElem?_getD, List.getElem?_set]
  by_cases e : at_ = j
  · subst e; simp [h]
  · rw [if_neg e, if_neg (fun h => e h.symm), List.getD_eq_getElem?_getD]
theorem set_ne {hs : List Txr} {t : Txr} {at_ : Nat} (h : at_ < hs.length) (hne : t ≠ hs.getD at_ txrZero) : hs.set at_ t ≠ hs := fun e => hne (by
  have := getD_setT hs t at_ at_ h
  rw [if_pos rfl, e] at this
  exact this.symm)
theorem wrap_ne {x : Int} (h : (Lit.int .i64 x).wf = true) : wrap64 (x + 1) ≠ x := by
  have h2 := h
  simp [Lit.wf, IntKind.min, IntKind.max, IntKind.signed, IntKind.bits] at h2
  unfold wrap64
  omega
theorem getD_setO (xs : List Opn) (x : Opn) (at_ j : Nat) (h : at_ < xs.length) : (xs.set at_ x).getD j opZero = if j = at_ then x else xs.getD j opZero := by
  rw [List.getD_eq_getElem?_getD, List.getElem?_set]
  by_cases e : at_ = j
  · subst e; simp [h]
  · rw [if_neg e, if_neg (fun h => e h.symm), List.getD_eq_getElem?_getD]
/-- The cells of a row of transactions. -/
theorem OwnT.cells {w : World} {base g cap n : Nat} {hs : List Txr} {U : Nat → Value} (h : OwnT w base (.slice (some ⟨g, 0, none⟩) n cap) hs U n) (j : Nat) (hj : j < n) : w.cell? ⟨g, j * 4, none⟩ = some (.int .i64 (hs.getD j txrZero).ses) ∧ w.cell? ⟨g, j * 4 + 1, none⟩ = some (.int .i64 (hs.getD j txrZero).beg) ∧ w.cell? ⟨g, j * 4 + 2, none⟩ = some (.int .i64 (hs.getD j txrZero).com) ∧ w.cell? ⟨g, j * 4 + 3, none⟩ = some (U j) := by
  have hf := cellsT_at hs U n j hj
  rw [World.ownsRow.cellAt h.row _ (by omega), World.ownsRow.cellAt h.row _ (by omega), World.ownsRow.cellAt h.row _ (by omega), World.ownsRow.cellAt h.row _ (by omega)]
  exact hf
/-- One cell of a row is written: the cells. -/
theorem cell_put {w : World} {g j k : Nat} {u v : Value} (h : w.cell? ⟨g, j, none⟩ = some v) : (w.setCell ⟨g, k, none⟩ u).cell? ⟨g, j, none⟩ = some (if j = k then u else v) := by
  unfold World.cell? at h ⊢
  unfold World.setCell
  simp only [Array.getElem?_modify, if_true] at h ⊢
  cases e : w.heap[g]? with
  | none => rw [e] at h; simp at h
  | some o =>
    rw [e] at h
    cases o with
    | cells cs T fr =>
      simp at h ⊢
      by_cases e2 : j = k
      · subst e2
        have : j < cs.size := (Array.getElem?_eq_some_iff.1 h).1
        simp [this]
      · simp [e2, Array.getElem?_setIfInBounds, Ne.symm e2, h]
    | _ => simp at h
/-- A whole number of a transaction of an own row is written. -/
theorem OwnT.put_int {w : World} {base g cap n at_ d : Nat} {hs : List Txr} {U : Nat → Value} {t : Txr} {z : Int} (h : OwnT w base (.slice (some ⟨g, 0, none⟩) n cap) hs U n) (hn : hs.length = n) (hat : at_ < n) (hd : d < 3)
    (ht0 : t.ops = (hs.getD at_ txrZero).ops) (h0 : t.ses = if d = 0 then z else (hs.getD at_ txrZero).ses) (h1 : t.beg = if d = 1 then z else (hs.getD at_ txrZero).beg) (h2 : t.com = if d = 2 then z else (hs.getD at_ txrZero).com) : Txns (w.setCell ⟨g, at_ * 4 + d, none⟩ (.int .i64 z)) (.slice (some ⟨g, 0, none⟩) n cap) (hs.set at_ t) := by
  have hx := h.row.2
  have hcap : n ≤ cap ∧ n ≤ 9223372036854775807 := by
    obtain ⟨_, h5, _⟩ := (hn ▸ h).txns.at
    omega
  refine txns_mk (U := U) (by rw [List.length_set]; exact hn) hcap fun j hj => ?_
  have hc := h.cells j hj
  have hch : Ch (· = g) w (w.setCell ⟨g, at_ * 4 + d, none⟩ (.int .i64 z)) := (Ch.refl _ _).setCell _ _ (fun _ => rfl)
  have hop := (h.ops j hj).off hch (fun b hb e => row_ne h.row (h.ops j hj) g rfl (by rw [hb, e]))
  rw [getD_setT _ _ _ _ (by omega)]
  rw [cell_put hc.1, cell_put hc.2.1, cell_put hc.2.2.1, cell_put hc.2.2.2]
  rw [if_neg (show ¬ j * 4 + 3 = at_ * 4 + d by omega)]
  by_cases e : j = at_
  · subst e
    rw [if_pos rfl, h0, h1, h2, ht0]
    refine ⟨?_, ?_, ?_, rfl, hop.opl⟩
    · by_cases e0 : d = 0
      · rw [if_pos (by omega), if_pos e0]
      · rw [if_neg (by omega), if_neg e0]
    · by_cases e0 : d = 1
      · rw [if_pos (by omega), if_pos e0]
      · rw [if_neg (by omega), if_neg e0]
    · by_cases e0 : d = 2
      · rw [if_pos (by omega), if_pos e0]
      · rw [if_neg (by omega), if_neg e0]
  · rw [if_neg e, if_neg (by omega), if_neg (by omega), if_neg (by omega)]
    exact ⟨rfl, rfl, rfl, rfl, hop.opl⟩
theorem OwnT.put_ops {w w' : World} {base g cap n at_ : Nat} {hs : List Txr} {U : Nat → Value} {t : Txr} {u : Value} (h : OwnT w base (.slice (some ⟨g, 0, none⟩) n cap) hs U n) (hn : hs.length = n) (hat : at_ < n) (hg : w.grownBy w' (U at_).ownBlock) (hu : OwnO w' base 35 u t.ops)
    (ht : t = { hs.getD at_ txrZero with ops := t.ops }) : Txns (w'.setCell ⟨g, at_ * 4 + 3, none⟩ u) (.slice (some ⟨g, 0, none⟩) n cap) (hs.set at_ t) := by
  have hcap : n ≤ cap ∧ n ≤ 9223372036854775807 := by
    obtain ⟨_, h5, _⟩ := (hn ▸ h).txns.at
    omega
  have hr := h.row.kept hg (.inr (fun e => row_ne h.row (h.ops at_ hat) g rfl e.symm))
  have hch : Ch (· = g) w' (w'.setCell ⟨g, at_ * 4 + 3, none⟩ u) := (Ch.refl _ _).setCell _ _ (fun _ => rfl)
  refine txns_mk (U := fun j => if j = at_ then u else U j) (by rw [List.length_set]; exact hn) hcap fun j hj => ?_
  have hf := cellsT_at hs U n j hj
  have g0 := (World.ownsRow.cellAt hr (j * 4) (by omega)).trans hf.1
  have g1 := (World.ownsRow.cellAt hr (j * 4 + 1) (by omega)).trans hf.2.1
  have g2 := (World.ownsRow.cellAt hr (j * 4 + 2) (by omega)).trans hf.2.2.1
  have g3 := (World.ownsRow.cellAt hr (j * 4 + 3) (by omega)).trans hf.2.2.2
  rw [getD_setT _ _ _ _ (by omega), cell_put g0, cell_put g1, cell_put g2, cell_put g3]
  rw [if_neg (show ¬ j * 4 = at_ * 4 + 3 by omega), if_neg (show ¬ j * 4 + 1 = at_ * 4 + 3 by omega), if_neg (show ¬ j * 4 + 2 = at_ * 4 + 3 by omega)]
  by_cases e : j = at_
  · subst e
    simp only [if_true]
    have hv := (hu.off hch (fun b hb e => row_ne hr hu g rfl (by rw [hb, e]))).opl
    obtain ⟨t0, t1, t2, t3⟩ := t
    cases ht
    refine ⟨?_, ?_, ?_, ?_, hv⟩ <;> first | trivial | rfl
  · simp only [if_neg e]
    rw [if_neg (by omega)]
    have ho := (h.ops j hj).grown hg (fun b hb e2 => h.apart j at_ hj hat e b hb e2)
    refine ⟨?_, ?_, ?_, ?_, (ho.off hch (fun b hb e2 => row_ne hr ho g rfl (by rw [hb, e2]))).opl⟩ <;> first | trivial | rfl
theorem OwnT.put_val {w : World} {base g cap n at_ gu l cu p : Nat} {hs : List Txr} {U : Nat → Value} {t : Txr} {x : Opn} {z : Int} (h : OwnT w base (.slice (some ⟨g, 0, none⟩) n cap) hs U n) (hn : hs.length = n) (hat : at_ < n) (hU : U at_ = .slice (some ⟨gu, 0, none⟩) l cu)
    (hl : (hs.getD at_ txrZero).ops.length = l) (hp : p < l) (hx : (hs.getD at_ txrZero).ops.getD p opZero = x) (ht : t = { hs.getD at_ txrZero with ops := (hs.getD at_ txrZero).ops.set p ⟨x.wr, x.key, z⟩ }) : Txns (w.setCell ⟨gu, p * 3 + 2, none⟩ (.int .i64 z)) (.slice (some ⟨g, 0, none⟩) n cap) (hs.set at_ t) := by
  have hcap : n ≤ cap ∧ n ≤ 9223372036854775807 := by
    obtain ⟨_, h5, _⟩ := (hn ▸ h).txns.at
    omega
  have hch : Ch (· = gu) w (w.setCell ⟨gu, p * 3 + 2, none⟩ (.int .i64 z)) := (Ch.refl _ _).setCell _ _ (fun _ => rfl)
  have hne : g ≠ gu := fun e => row_ne h.row (h.ops at_ hat) g rfl (by rw [hU, e]; rfl)
  have hr := h.row.kept (grown_of_ch1 hch) (.inr (by simp [Value.ownBlock]; exact hne))
  refine txns_mk (U := U) (by rw [List.length_set]; exact hn) hcap fun j hj => ?_
  have hf := cellsT_at hs U n j hj
  have g0 := (World.ownsRow.cellAt hr (j * 4) (by omega)).trans hf.1
  have g1 := (World.ownsRow.cellAt hr (j * 4 + 1) (by omega)).trans hf.2.1
  have g2 := (World.ownsRow.cellAt hr (j * 4 + 2) (by omega)).trans hf.2.2.1
  have g3 := (World.ownsRow.cellAt hr (j * 4 + 3) (by omega)).trans hf.2.2.2
  rw [getD_setT _ _ _ _ (by omega)]
  by_cases e : j = at_
  · subst e
    rw [if_pos rfl]
    have hrow := h.ops j hj
    obtain ⟨xs, hxs⟩ : ∃ xs, (hs.getD j txrZero).ops = xs := ⟨_, rfl⟩
    rw [hxs] at hl hx ht hrow
    rw [hU] at hrow
    have hop : Opl (w.setCell ⟨gu, p * 3 + 2, none⟩ (.int .i64 z)) (U j) (xs.set p ⟨x.wr, x.key, z⟩) := by
      rw [hU]
      subst hl
      refine ⟨_, _, (by rw [List.length_set]), (by rw [List.length_set]; exact hrow.opl.at.2.1), fun _ => ⟨_, rfl, fun i hi => ?_⟩⟩
      rw [List.length_set] at hi
      have hfi := flatO_at xs i hi
      have k0 := (World.ownsRow.cellAt hrow (i * 3) (by omega)).trans hfi.1
      have k1 := (World.ownsRow.cellAt hrow (i * 3 + 1) (by omega)).trans hfi.2.1
      have k2 := (World.ownsRow.cellAt hrow (i * 3 + 2) (by omega)).trans hfi.2.2
      rw [own_add, getD_setO _ _ _ _ hp]
      show _ ∧ (w.setCell _ _).cell? ⟨gu, i * 3 + 1, none⟩ = _ ∧ (w.setCell _ _).cell? ⟨gu, i * 3 + 2, none⟩ = _
      rw [cell_put k0, cell_put k1, cell_put k2]
      rw [if_neg (show ¬ i * 3 = p * 3 + 2 by omega), if_neg (show ¬ i * 3 + 1 = p * 3 + 2 by omega)]
      by_cases e2 : i = p
      · subst e2
        rw [if_pos rfl, if_pos rfl, hx]
        exact ⟨rfl, rfl, rfl⟩
      · rw [if_neg e2, if_neg (by omega)]
        refine ⟨?_, ?_, ?_⟩ <;> first | trivial | rfl
    rw [ht, g0, g1, g2, g3]
    refine ⟨?_, ?_, ?_, ?_, hop⟩ <;> first | trivial | rfl
  · rw [if_neg e, g0, g1, g2, g3]
    have ho := (h.ops j hj).off hch (fun b hb e2 => h.apart j at_ hj hat e b hb (by rw [hU, e2]; rfl))
    refine ⟨?_, ?_, ?_, ?_, ho.opl⟩ <;> first | trivial | rfl
theorem txns_take {w : World} {A : Option Addr} {n cp : Nat} {hs : List Txr} (h : Txns w (.slice A n cp) hs) (m : Nat) (hm : m ≤ n) : Txns w (.slice A m cp) (hs.take m) := by
  obtain ⟨hn, hl, hx⟩ := h.at
  have hlen : (hs.take m).length = m := by rw [List.length_take]; omega
  refine ⟨A, cp, by rw [hlen], by rw [hlen]; omega, fun h0 => ?_⟩
  rw [hlen] at h0 ⊢
  obtain ⟨ad, _, hA, _⟩ := hx 0 (by omega)
  refine ⟨ad, hA, fun j hj => ?_⟩
  obtain ⟨ad2, u, hA2, h2⟩ := hx j (by omega)
  rw [hA] at hA2
  cases hA2
  refine ⟨u, ?_⟩
  rw [List.getD_eq_getElem?_getD, List.getElem?_take, if_pos hj, ← List.getD_eq_getElem?_getD]
  exact h2
set_option maxRecDepth 100000 in
set_option maxHeartbeats 8000000 in
theorem law_historycopies (w : World) (v : Value) (hs : List Txr) (hv : Txns w v hs) (hk : TxnsOk hs) (hL : LensOk hs) (i : Int) (hi : 0 ≤ i ∧ i ≤ 255) (k : Int) (hk2 : 0 ≤ k ∧ k ≤ 255) : Calls Try.prog 6 #[v, .int .u8 i, .int .u8 k] w fun e w' => e = .returned (.bool true) ∧ Below w.heap.size w w' := by
  obtain ⟨A, cp, rfl⟩ := hv.shape
  have HV := Lib.hid hv
  have HK := Lib.hid hk
  have HLN := Lib.hid hL
  obtain ⟨_, ⟨_, hlen⟩, _⟩ := hv.at
  obtain ⟨n, hn2⟩ : ∃ n, hs.length = n := ⟨_, rfl⟩
  have HN := Lib.hid hn2
  rw [hn2] at HV hlen ⊢
  clear hv hk hL hn2
  go_enter Try.func6, Try.ntmps6
  go_wp2_with fail
  refine (speaks06 _).mono ?_
  rintro e w1 ⟨rfl, hc1⟩
  go_wp2_with fail
  refine (big06 _ _ hs (HV.out.keep hc1) HLN.out).mono ?_
  rintro e w2 ⟨rfl, hc2⟩
  have hc3 := hc1.seq hc2
  clear hc1 hc2
  cases hb : bigN hs with
  | true =>
    rw [bigZ_yes hb]
    go_wp2_with fail
    go_ret
    exact ⟨rfl, hc3.below⟩
  | false =>
    rw [bigZ_no hb]
    have HC := Lib.hid (bigN_count hb)
    clear hb
    go_wp2_with fail
    refine (copy_history _ _ hs (HV.out.keep hc3) (by have := HC.out; omega) (by have := HC.out; omega)).mono ?_
    rintro e w3 ⟨vc, U, rfl, hoc, hcA⟩
    have hc4 := hc3.seq hcA
    have HOC := Lib.hid hoc
    have hbc : w.heap.size ≤ w2.heap.size := hc3.size
    clear hcA hc3 hoc
    go_wp2_with fail
    refine (copy_history _ _ hs (HV.out.keep hc4) (by have := HC.out; omega) (by have := HC.out; omega)).mono ?_
    rintro e w4 ⟨vd, V, rfl, hod, hcA⟩
    have hc5 := hc4.seq hcA
    have HOC2 := Lib.hid (HOC.out.keep hcA)
    have HOD := Lib.hid hod
    have hsz3 : w3.heap.size ≤ w4.heap.size := hcA.size
    have HGC := Lib.hid (fun b hb => (HOC.out.row.lt b hb).2)
    have HGCU := Lib.hid (show ∀ j, j < n → ∀ b, (U j).ownBlock = some b → b < w3.heap.size from fun j hj b hb => ((HOC.out.ops j (by rw [HN.out]; exact hj)).ge b hb).2)
    clear hcA hc4 hod HOC
    obtain ⟨Ac, cc, hvc⟩ := HOC2.out.txns.shape
    rw [HN.out] at hvc
    subst hvc
    obtain ⟨Ad, cd, hvd⟩ := HOD.out.txns.shape
    rw [HN.out] at hvd
    subst hvd
    go_wp2_with fail
    refine (same_history _ _ _ hs hs HOC2.out.txns (HV.out.keep hc5)).mono ?_
    rintro e w5 ⟨q, rfl, hq, hcA⟩
    obtain rfl := hq.2 rfl
    have hc6 := hc5.seq hcA
    have HOC3 := Lib.hid (HOC2.out.keep hcA)
    have HOD2 := Lib.hid (HOD.out.keep hcA)
    clear hcA hc5 hq HOC2 HOD
    go_wp2_with fail
    refine (same_history _ _ _ hs hs (HV.out.keep hc6) HOC3.out.txns).mono ?_
    rintro e w6 ⟨q, rfl, hq, hcA⟩
    obtain rfl := hq.2 rfl
    have hc7 := hc6.seq hcA
    have HOC4 := Lib.hid (HOC3.out.keep hcA)
    have HOD3 := Lib.hid (HOD2.out.keep hcA)
    clear hcA hc6 hq HOC3 HOD2
    have hnn : ((n : Int) != (n : Int)) = false := by simp
    by_cases hn0 : n = 0
    · have h0 : ((n : Int) == 0) = true := by rw [hn0]; rfl
      go_wp2_with fail
      go_ret
      exact ⟨rfl, hc7.below⟩
    · have h0 : ((n : Int) == 0) = false := by simp; omega
      obtain ⟨q, hq⟩ : ∃ q : Nat, i % (n : Int) = (q : Int) := ⟨(i % (n : Int)).toNat, by have := Int.emod_nonneg i (show (n : Int) ≠ 0 by omega); omega⟩
      have hqn : q < n := by have := Int.emod_lt_of_pos i (show (0 : Int) < n by omega); omega
      have HOC5 : OwnT w6 w2.heap.size (.slice Ac n cc) hs U n := by have := HOC4.out; rw [HN.out] at this; exact this
      obtain ⟨gc, hgc⟩ : ∃ gc, Ac = some ⟨gc, 0, none⟩ := by
        rcases HOC5.row.2 with ⟨_, h⟩ | ⟨g, cap, cur, h, _⟩
        · exact absurd h hn0
        · simp only [Value.slice.injEq] at h
          exact ⟨g, h.1⟩
      obtain ⟨ac, hac⟩ : ∃ ac : Addr, ac = ⟨gc, 0, none⟩ := ⟨_, rfl⟩
      have HOC6 := Lib.hid (show OwnT w6 w2.heap.size (.slice (some ⟨gc, 0, none⟩) n cc) hs U n from by rw [← hgc]; exact HOC5)
      have hgw := HGC.out gc (by rw [hgc]; rfl)
      have hgw2 := (HOC6.out.row.lt gc rfl).1
      rw [← hac] at hgc
      subst hgc
      have HAC := Lib.hid hac
      have hcel := HOC6.out.cells q hqn
      clear HOC4 HOC5 hac
      obtain ⟨m1, hm1⟩ : ∃ m1 : Nat, (n : Int) - 1 = (m1 : Int) := ⟨n - 1, by omega⟩
      have hmn : m1 ≤ n := by omega
      have hmc : n ≤ cp := by have := HV.out.at; omega
      have HTK := Lib.hid (txns_take HV.out m1 hmn)
      have HTN := Lib.hid (show hs ≠ hs.take m1 from fun e => by
        have h1 := congrArg List.length e
        rw [List.length_take] at h1
        have := HN.out
        omega)
      by_cases hk0 : k % 4 = 0
      · have d0 : (k % 4 == 0) = true := by simp [hk0]
        clear hk0
        obtain ⟨T, hT⟩ : ∃ T, hs.getD q txrZero = T := ⟨_, rfl⟩
        rw [hT] at hcel
        have hokT := HK.out q (by rw [HN.out]; exact hqn)
        rw [hT] at hokT
        have hl0 : w6.cell? (ac.add (q * 4)) = some (.int .i64 T.ses) := by rw [HAC.out, own_add]; exact hcel.1
        have hf0 : w6.frozen? (ac.add (q * 4)) = false := by rw [HAC.out, own_add]; exact World.ownsRow.frozenAt HOC6.out.row _
        have hTX := HOC6.out.put_int (z := wrap64 (T.ses + 1)) (t := ⟨wrap64 (T.ses + 1), T.beg, T.com, T.ops⟩) (d := 0) HN.out hqn (by omega) (by rw [hT]) (by rw [hT]; try rfl) (by rw [hT]; try rfl) (by rw [hT]; try rfl)
        have hadr : (⟨gc, q * 4 + 0, none⟩ : Addr) = (ac.add (q * 4)) := by rw [HAC.out, own_add]; try rfl
        rw [hadr, ← HAC.out] at hTX
        have hcw0 : Ch (· = gc) w6 (w6.setCell (ac.add (q * 4)) (.int .i64 (wrap64 (T.ses + 1)))) := (Ch.refl _ _).setCell _ _ (fun _ => by rw [HAC.out, own_add])
        have hcw := hc7.fresh hcw0 (by omega)
        have HTX := Lib.hid hTX
        have HDX := Lib.hid ((HOD3.out.off hcw0 (.inl (by omega))).txns)
        have HNE := Lib.hid (set_ne (hs := hs) (t := ⟨wrap64 (T.ses + 1), T.beg, T.com, T.ops⟩) (at_ := q) (by rw [HN.out]; exact hqn) (by rw [hT]; exact fun e => wrap_ne hokT.2.1 (congrArg Txr.ses e)))
        clear hTX hadr hcw0 hokT hT hc7 HOD3 HOC6 hcel
        go_wp2_with fail
        refine (same_history _ _ _ _ hs HTX.out (HV.out.keep hcw)).mono ?_
        rintro e wa ⟨qa, rfl, hqa, hca⟩
        have hqa2 : qa = false := by
          cases qa with
          | false => rfl
          | true => exact absurd (hqa.1 rfl) HNE.out
        subst hqa2
        have hcw2 := hcw.seq hca
        have HTX2 := Lib.hid (HTX.out.keep hca)
        have HDX2 := Lib.hid (HDX.out.keep hca)
        clear hqa hca hcw HTX HDX
        go_wp2_with fail
        refine (same_history _ _ _ hs _ (HV.out.keep hcw2) HTX2.out).mono ?_
        rintro e wb ⟨qa, rfl, hqa, hca⟩
        have hqa2 : qa = false := by
          cases qa with
          | false => rfl
          | true => exact absurd (hqa.1 rfl).symm HNE.out
        subst hqa2
        have hcw3 := hcw2.seq hca
        have HDX3 := Lib.hid (HDX2.out.keep hca)
        clear hqa hca hcw2 HTX2 HDX2
        go_wp2_with fail
        refine (same_history _ _ _ hs hs HDX3.out (HV.out.keep hcw3)).mono ?_
        rintro e wc ⟨qa, rfl, hqa, hca⟩
        obtain rfl := hqa.2 rfl
        have hcw4 := hcw3.seq hca
        clear hqa hca hcw3 HDX3
        go_wp2_with fail
        refine (same_history _ _ _ hs _ (HV.out.keep hcw4) (HTK.out.keep hcw4)).mono ?_
        rintro e wd ⟨qa, rfl, hqa, hca⟩
        have hqa2 : qa = false := by
          cases qa with
          | false => rfl
          | true => exact absurd (hqa.1 rfl) HTN.out
        subst hqa2
        have hcw5 := hcw4.seq hca
        clear hqa hca hcw4
        go_wp2_with fail
        go_ret
        exact ⟨rfl, hcw5.below⟩
      · have d0 : (k % 4 == 0) = false := by simp [hk0]
        by_cases hk1 : k % 4 = 1
        · have d1 : (k % 4 == 1) = true := by simp [hk1]
          clear hk1 hk0
          obtain ⟨T, hT⟩ : ∃ T, hs.getD q txrZero = T := ⟨_, rfl⟩
          rw [hT] at hcel
          have hokT := HK.out q (by rw [HN.out]; exact hqn)
          rw [hT] at hokT
          have hl0 : w6.cell? ⟨(ac.add (q * 4)).block, (ac.add (q * 4)).off + 2, none⟩ = some (.int .i64 T.com) := by rw [HAC.out, own_add]; exact hcel.2.2.1
          have hf0 : w6.frozen? ⟨(ac.add (q * 4)).block, (ac.add (q * 4)).off + 2, none⟩ = false := by rw [HAC.out, own_add]; exact World.ownsRow.frozenAt HOC6.out.row _
          have hTX := HOC6.out.put_int (z := wrap64 (T.com + 1)) (t := ⟨T.ses, T.beg, wrap64 (T.com + 1), T.ops⟩) (d := 2) HN.out hqn (by omega) (by rw [hT]) (by rw [hT]; try rfl) (by rw [hT]; try rfl) (by rw [hT]; try rfl)
          have hadr : (⟨gc, q * 4 + 2, none⟩ : Addr) = ⟨(ac.add (q * 4)).block, (ac.add (q * 4)).off + 2, none⟩ := by rw [HAC.out, own_add]; try rfl
          rw [hadr, ← HAC.out] at hTX
          have hcw0 : Ch (· = gc) w6 (w6.setCell ⟨(ac.add (q * 4)).block, (ac.add (q * 4)).off + 2, none⟩ (.int .i64 (wrap64 (T.com + 1)))) := (Ch.refl _ _).setCell _ _ (fun _ => by rw [HAC.out, own_add])
          have hcw := hc7.fresh hcw0 (by omega)
          have HTX := Lib.hid hTX
          have HDX := Lib.hid ((HOD3.out.off hcw0 (.inl (by omega))).txns)
          have HNE := Lib.hid (set_ne (hs := hs) (t := ⟨T.ses, T.beg, wrap64 (T.com + 1), T.ops⟩) (at_ := q) (by rw [HN.out]; exact hqn) (by rw [hT]; exact fun e => wrap_ne hokT.2.2.2 (congrArg Txr.com e)))
          clear hTX hadr hcw0 hokT hT hc7 HOD3 HOC6 hcel
          go_wp2_with fail
          refine (same_history _ _ _ _ hs HTX.out (HV.out.keep hcw)).mono ?_
          rintro e wa ⟨qa, rfl, hqa, hca⟩
          have hqa2 : qa = false := by
            cases qa with
            | false => rfl
            | true => exact absurd (hqa.1 rfl) HNE.out
          subst hqa2
          have hcw2 := hcw.seq hca
          have HTX2 := Lib.hid (HTX.out.keep hca)
          have HDX2 := Lib.hid (HDX.out.keep hca)
          clear hqa hca hcw HTX HDX
          go_wp2_with fail
          refine (same_history _ _ _ hs _ (HV.out.keep hcw2) HTX2.out).mono ?_
          rintro e wb ⟨qa, rfl, hqa, hca⟩
          have hqa2 : qa = false := by
            cases qa with
            | false => rfl
            | true => exact absurd (hqa.1 rfl).symm HNE.out
          subst hqa2
          have hcw3 := hcw2.seq hca
          have HDX3 := Lib.hid (HDX2.out.keep hca)
          clear hqa hca hcw2 HTX2 HDX2
          go_wp2_with fail
          refine (same_history _ _ _ hs hs HDX3.out (HV.out.keep hcw3)).mono ?_
          rintro e wc ⟨qa, rfl, hqa, hca⟩
          obtain rfl := hqa.2 rfl
          have hcw4 := hcw3.seq hca
          clear hqa hca hcw3 HDX3
          go_wp2_with fail
          refine (same_history _ _ _ hs _ (HV.out.keep hcw4) (HTK.out.keep hcw4)).mono ?_
          rintro e wd ⟨qa, rfl, hqa, hca⟩
          have hqa2 : qa = false := by
            cases qa with
            | false => rfl
            | true => exact absurd (hqa.1 rfl) HTN.out
          subst hqa2
          have hcw5 := hcw4.seq hca
          clear hqa hca hcw4
          go_wp2_with fail
          go_ret
          exact ⟨rfl, hcw5.below⟩
        · have d1 : (k % 4 == 1) = false := by simp [hk1]
          by_cases hk3 : k % 4 = 2
          · have d2 : (k % 4 == 2) = true := by simp [hk3]
            clear hk3 hk1 hk0
            obtain ⟨T, hT⟩ : ∃ T, hs.getD q txrZero = T := ⟨_, rfl⟩
            rw [hT] at hcel
            have hou := HOC6.out.ops q hqn
            rw [hT] at hou
            obtain ⟨Au, cu, hU⟩ := hou.opl.shape
            have hadr : (⟨gc, q * 4 + 3, none⟩ : Addr) = ⟨(ac.add (q * 4)).block, (ac.add (q * 4)).off + 3, none⟩ := by rw [HAC.out, own_add]
            have hl0 : w6.cell? ⟨(ac.add (q * 4)).block, (ac.add (q * 4)).off + 3, none⟩ = some (.slice Au T.ops.length cu) := by rw [← hadr, ← hU]; exact hcel.2.2.2
            have HADR := Lib.hid hadr
            have hcZ : Ch nob w6 (w6.alloc (.cells #[.bool false, .int .i64 0, .int .i64 0] 35)) := (Ch.refl _ _).alloc _
            have HOZ := Lib.hid (HOC6.out.keep hcZ)
            have hnb := Lib.hid (Blk.new w6 #[.bool false, .int .i64 0, .int .i64 0] 35)
            have houZ := Lib.hid (show OwnO (w6.alloc (.cells #[.bool false, .int .i64 0, .int .i64 0] 35)) w2.heap.size 35 (.slice Au T.ops.length cu) T.ops from by rw [← hU]; exact hou.keep hcZ)
            have HTL := Lib.hid (show T.ops.length ≤ 1000000 from by
              have h1 := countTo_mono hs (show q + 1 ≤ hs.length by rw [HN.out]; omega)
              have h2 : countTo hs (q + 1) = countTo hs q + (hs.getD q txrZero).ops.length := rfl
              rw [hT] at h2
              have := HC.out
              omega)
            have HUQ := Lib.hid hU
            have hz26 : w2.heap.size ≤ w6.heap.size := by have := HOC6.out.row.lt gc rfl; omega
            have HTT := Lib.hid hT
            have hgr : ∀ w'', (w6.alloc (.cells #[.bool false, .int .i64 0, .int .i64 0] 35)).grownBy w'' (Value.slice Au T.ops.length cu).ownBlock → w''.cell? ⟨(ac.add (q * 4)).block, (ac.add (q * 4)).off + 3, none⟩ = some (.slice Au T.ops.length cu) ∧ w''.frozen? ⟨(ac.add (q * 4)).block, (ac.add (q * 4)).off + 3, none⟩ = false := fun w'' hg => by
              have hr := HOZ.out.row.kept hg (.inr (by
                intro e
                have := row_ne HOZ.out.row (HOZ.out.ops q hqn) gc rfl
                rw [HUQ.out] at this
                exact this e.symm))
              rw [← HADR.out]
              refine ⟨?_, World.ownsRow.frozenAt hr _⟩
              rw [World.ownsRow.cellAt hr _ (by omega), ← HUQ.out]
              exact (cellsT_at hs U n q hqn).2.2.2
            have HGR := Lib.hid hgr
            clear hgr hadr hcel hou hU hT hcZ
            go_wp2_with (at_builtin; refine wpList_append_op rfl (.tmp 101) (.tmp 103) 31 35 rfl elem_op w2.heap.size _ T.ops rfl houZ.out _ ⟨false, 0, 0⟩ 35 rfl (by simpa using hnb.out) HTL.out (by simp; omega) ?_; intro v7 w7 hown7 hg7; obtain ⟨A7, c7, hv7⟩ := (show ∃ A c, v7 = .slice A (T.ops.length + 1) c from by have h9 := hown7.opl.shape; simpa using h9); subst hv7; obtain ⟨hl7, hf7⟩ := HGR.out w7 hg7)
            have hg8 : (w6.alloc (.cells #[.bool false, .int .i64 0, .int .i64 0] 35)).grownBy w7 (U q).ownBlock := by rw [HUQ.out]; exact hg7
            have hTX := HOZ.out.put_ops (t := ⟨T.ses, T.beg, T.com, T.ops ++ [(⟨false, 0, 0⟩ : Opn)]⟩) HN.out hqn hg8 hown7 (by rw [HTT.out])
            rw [HADR.out, ← HAC.out] at hTX
            have hcA : Ch nob w w7 := (hc7.alloc (.cells #[.bool false, .int .i64 0, .int .i64 0] 35)).grown_own hg7 (fun b hb => by have := (houZ.out.ge b hb).1; omega)
            have hcw0 : Ch (· = gc) w7 (w7.setCell ⟨(ac.add (q * 4)).block, (ac.add (q * 4)).off + 3, none⟩ (.slice A7 (T.ops.length + 1) c7)) := (Ch.refl _ _).setCell _ _ (fun _ => by rw [← HADR.out])
            have hcw := hcA.fresh hcw0 (by omega)
            have HTX := Lib.hid hTX
            have hodz := (HOD3.out.keep ((Ch.refl nob w6).alloc (.cells #[.bool false, .int .i64 0, .int .i64 0] 35))).grown hg8 (fun b hb => .inl (by have := (HOC6.out.ops q hqn).ge b hb; have := HGCU.out q hqn b hb; omega))
            have HDX := Lib.hid ((hodz.off hcw0 (.inl (by omega))).txns)
            have HNE := Lib.hid (set_ne (hs := hs) (t := ⟨T.ses, T.beg, T.com, T.ops ++ [(⟨false, 0, 0⟩ : Opn)]⟩) (at_ := q) (by rw [HN.out]; exact hqn) (by rw [HTT.out]; exact fun e => by have h1 := congrArg (fun t => t.ops.length) e; simp at h1))
            clear hTX hcw0 hcA hodz hc7 HOD3 HOC6 hg8
            refine (same_history _ _ _ _ hs HTX.out (HV.out.keep hcw)).mono ?_
            rintro e wa ⟨qa, rfl, hqa, hca⟩
            have hqa2 : qa = false := by
              cases qa with
              | false => rfl
              | true => exact absurd (hqa.1 rfl) HNE.out
            subst hqa2
            have hcw2 := hcw.seq hca
            have HTX2 := Lib.hid (HTX.out.keep hca)
            have HDX2 := Lib.hid (HDX.out.keep hca)
            clear hqa hca hcw HTX HDX
            go_wp2_with fail
            refine (same_history _ _ _ hs _ (HV.out.keep hcw2) HTX2.out).mono ?_
            rintro e wb ⟨qa, rfl, hqa, hca⟩
            have hqa2 : qa = false := by
              cases qa with
              | false => rfl
              | true => exact absurd (hqa.1 rfl).symm HNE.out
            subst hqa2
            have hcw3 := hcw2.seq hca
            have HDX3 := Lib.hid (HDX2.out.keep hca)
            clear hqa hca hcw2 HTX2 HDX2
            go_wp2_with fail
            refine (same_history _ _ _ hs hs HDX3.out (HV.out.keep hcw3)).mono ?_
            rintro e wc ⟨qa, rfl, hqa, hca⟩
            obtain rfl := hqa.2 rfl
            have hcw4 := hcw3.seq hca
            clear hqa hca hcw3 HDX3
            go_wp2_with fail
            refine (same_history _ _ _ hs _ (HV.out.keep hcw4) (HTK.out.keep hcw4)).mono ?_
            rintro e wd ⟨qa, rfl, hqa, hca⟩
            have hqa2 : qa = false := by
              cases qa with
              | false => rfl
              | true => exact absurd (hqa.1 rfl) HTN.out
            subst hqa2
            have hcw5 := hcw4.seq hca
            clear hqa hca hcw4
            go_wp2_with fail
            go_ret
            exact ⟨rfl, hcw5.below⟩
          · have d2 : (k % 4 == 2) = false := by simp [hk3]
            clear hk3 hk1 hk0
            obtain ⟨T, hT⟩ : ∃ T, hs.getD q txrZero = T := ⟨_, rfl⟩
            rw [hT] at hcel
            have hou := HOC6.out.ops q hqn
            rw [hT] at hou
            obtain ⟨Au, cu, hU⟩ := hou.opl.shape
            obtain ⟨l, hl⟩ : ∃ l, T.ops.length = l := ⟨_, rfl⟩
            rw [hl] at hU
            have hl0 : w6.cell? ⟨(ac.add (q * 4)).block, (ac.add (q * 4)).off + 3, none⟩ = some (.slice Au l cu) := by rw [HAC.out, own_add, ← hU]; exact hcel.2.2.2
            have HL := Lib.hid hl
            have HUQ := Lib.hid hU
            have HTT := Lib.hid hT
            have HOU := Lib.hid hou
            clear hl hU hT hou hcel
            by_cases hl1 : l = 0
            · have d3 : ((l : Int) == 0) = true := by rw [hl1]; rfl
              go_wp2_with fail
              go_ret
              exact ⟨rfl, hc7.below⟩
            · have d3 : ((l : Int) == 0) = false := by simp; omega
              obtain ⟨p, hp⟩ : ∃ p : Nat, k % (l : Int) = (p : Int) := ⟨(k % (l : Int)).toNat, by have := Int.emod_nonneg k (show (l : Int) ≠ 0 by omega); omega⟩
              have hpl : p < l := by have := Int.emod_lt_of_pos k (show (0 : Int) < l by omega); omega
              obtain ⟨gu, hgu⟩ : ∃ gu, U q = .slice (some ⟨gu, 0, none⟩) l cu := by
                rcases HOU.out.2 with ⟨h, _⟩ | ⟨g, cap, cur, h, _⟩
                · rw [HUQ.out] at h
                  simp only [Value.slice.injEq] at h
                  omega
                · rw [HUQ.out] at h
                  simp only [Value.slice.injEq] at h
                  rw [HUQ.out, h.1]
                  exact ⟨g, rfl⟩
              obtain ⟨au, hau⟩ : ∃ au : Addr, au = ⟨gu, 0, none⟩ := ⟨_, rfl⟩
              have hAu : Au = some au := by
                have := HUQ.out
                rw [hgu] at this
                simp only [Value.slice.injEq] at this
                rw [hau]; exact this.1.symm
              subst hAu
              have HAU := Lib.hid hau
              have HGU := Lib.hid hgu
              have hx := (show Opl w6 (.slice (some ⟨gu, 0, none⟩) l cu) T.ops from by rw [← hgu]; exact HOU.out.opl).at.2.2 p (by rw [HL.out]; exact hpl)
              obtain ⟨x, hxx⟩ : ∃ x, T.ops.getD p opZero = x := ⟨_, rfl⟩
              rw [hxx] at hx
              have HXX := Lib.hid hxx
              have hva : w6.cell? ⟨(au.add (p * 3)).block, (au.add (p * 3)).off + 2, none⟩ = some (.int .i64 x.val) := by
                obtain ⟨ad, h1, _, _, h4⟩ := hx
                cases h1
                rw [HAU.out]; exact h4
              have hokx := (HK.out q (by rw [HN.out]; exact hqn)).1.2 p (by rw [HTT.out, HL.out]; exact hpl)
              rw [HTT.out, hxx] at hokx
              have HOX := Lib.hid hokx
              have HLC := Lib.hid hl0
              have HVA := Lib.hid hva
              have X0 := fun u : Ext _ => Ext.cell hl0 u
              have X1 := fun u : Ext _ => Ext.cell hva u
              clear hau hgu hx hxx hokx
              go_wp2_with fail
              refine wp_region_ch_tail 20 (by kernel_rfl) (by kernel_rfl) (Ch.refl nob w6) ?_
              simp only [List.take_succ_cons, List.take_zero, List.drop_succ_cons, List.drop_zero]
              repeat go_big_quiet_step (fail)
              refine wpQuiet_nil ?_
              rintro wq ⟨⟨wq, hcq⟩, rfl⟩
              have HOCq := Lib.hid (HOC6.out.keep hcq)
              have HODq := Lib.hid (HOD3.out.keep hcq)
              have hcW := hc7.seq hcq
              have hl2 : wq.cell? ⟨(au.add (p * 3)).block, (au.add (p * 3)).off + 2, none⟩ = some (.int .i64 x.val) := X1 ⟨wq, hcq⟩
              have hadr : (⟨gu, p * 3 + 2, none⟩ : Addr) = ⟨(au.add (p * 3)).block, (au.add (p * 3)).off + 2, none⟩ := by rw [HAU.out, own_add]
              have hf2 : wq.frozen? ⟨(au.add (p * 3)).block, (au.add (p * 3)).off + 2, none⟩ = false := by
                rw [← hadr]
                have h1 := HOCq.out.ops q hqn
                rw [HTT.out] at h1
                have h2 : wq.ownsRow w2.heap.size 35 3 (.slice (some ⟨gu, 0, none⟩) T.ops.length cu) T.ops.length (flatO T.ops) := by
                  have h3 : U q = .slice (some ⟨gu, 0, none⟩) T.ops.length cu := by rw [HGU.out, HL.out]
                  rw [← h3]; exact h1
                exact World.ownsRow.frozenAt h2 _
              have hTX := HOCq.out.put_val (z := wrap64 (x.val + 1)) (p := p) (x := x) (t := ⟨T.ses, T.beg, T.com, T.ops.set p ⟨x.wr, x.key, wrap64 (x.val + 1)⟩⟩) HN.out hqn HGU.out (by rw [HTT.out]; exact HL.out) hpl (by rw [HTT.out]; exact HXX.out) (by rw [HTT.out])
              rw [hadr, ← HAC.out] at hTX
              have hgu2 : w2.heap.size ≤ gu ∧ gu < w3.heap.size := ⟨((HOC6.out.ops q hqn).ge gu (by rw [HGU.out]; rfl)).1, HGCU.out q hqn gu (by rw [HGU.out]; rfl)⟩
              have hcw0 : Ch (· = gu) wq (wq.setCell ⟨(au.add (p * 3)).block, (au.add (p * 3)).off + 2, none⟩ (.int .i64 (wrap64 (x.val + 1)))) := (Ch.refl _ _).setCell _ _ (fun _ => by rw [← hadr])
              have hcw := hcW.fresh hcw0 (by omega)
              have HTX := Lib.hid hTX
              have HDX := Lib.hid ((HODq.out.off hcw0 (.inl (by omega))).txns)
              have HNE := Lib.hid (set_ne (hs := hs) (t := ⟨T.ses, T.beg, T.com, T.ops.set p ⟨x.wr, x.key, wrap64 (x.val + 1)⟩⟩) (at_ := q) (by rw [HN.out]; exact hqn) (by
                rw [HTT.out]
                intro e
                have h1 : T.ops.set p ⟨x.wr, x.key, wrap64 (x.val + 1)⟩ = T.ops := congrArg Txr.ops e
                have h2 := getD_setO T.ops ⟨x.wr, x.key, wrap64 (x.val + 1)⟩ p p (by rw [HL.out]; exact hpl)
                rw [if_pos rfl, h1, HXX.out] at h2
                exact wrap_ne HOX.out (congrArg Opn.val h2).symm))
              clear hTX hcw0 hcW hcq hc7 HOD3 HOC6 HOCq HODq X0 X1 hl0 hva
              go_wp2_with fail
              refine (same_history _ _ _ _ hs HTX.out (HV.out.keep hcw)).mono ?_
              rintro e wa ⟨qa, rfl, hqa, hca⟩
              have hqa2 : qa = false := by
                cases qa with
                | false => rfl
                | true => exact absurd (hqa.1 rfl) HNE.out
              subst hqa2
              have hcw2 := hcw.seq hca
              have HTX2 := Lib.hid (HTX.out.keep hca)
              have HDX2 := Lib.hid (HDX.out.keep hca)
              clear hqa hca hcw HTX HDX
              go_wp2_with fail
              refine (same_history _ _ _ hs _ (HV.out.keep hcw2) HTX2.out).mono ?_
              rintro e wb ⟨qa, rfl, hqa, hca⟩
              have hqa2 : qa = false := by
                cases qa with
                | false => rfl
                | true => exact absurd (hqa.1 rfl).symm HNE.out
              subst hqa2
              have hcw3 := hcw2.seq hca
              have HDX3 := Lib.hid (HDX2.out.keep hca)
              clear hqa hca hcw2 HTX2 HDX2
              go_wp2_with fail
              refine (same_history _ _ _ hs hs HDX3.out (HV.out.keep hcw3)).mono ?_
              rintro e wc ⟨qa, rfl, hqa, hca⟩
              obtain rfl := hqa.2 rfl
              have hcw4 := hcw3.seq hca
              clear hqa hca hcw3 HDX3
              go_wp2_with fail
              refine (same_history _ _ _ hs _ (HV.out.keep hcw4) (HTK.out.keep hcw4)).mono ?_
              rintro e wd ⟨qa, rfl, hqa, hca⟩
              have hqa2 : qa = false := by
                cases qa with
                | false => rfl
                | true => exact absurd (hqa.1 rfl) HTN.out
              subst hqa2
              have hcw5 := hcw4.seq hca
              clear hqa hca hcw4
              go_wp2_with fail
              go_ret
              exact ⟨rfl, hcw5.below⟩
      end Go.Proofs.Ytobfanodjdkkoaa
