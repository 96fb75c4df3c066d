/- The document's account of a transaction: what came before; is it steady? No condition but each theorem's own. -/
import Derived.Test.YtobfanodjdkkoaaDoorTxnC
set_option linter.unusedVariables false
set_option linter.unusedSimpArgs false
namespace Go.Proofs.YtobfanodjdkkoaaDoor
open Go.RowKit Go.Maps

/-- The results of a function: a struct's variable, and a slot. -/
theorem results_cell_row2 {P : Program} {fn : Func} {p u : Tmp} {ty : TypeId} (h : fn.results = #[.cell p ty, .tmp u]) (tmps : Array Value) (w : World) (g : Nat) (t : TypeId) (cs : Array Value) (fr : Nat × Nat) (d : TypeDesc)
    (hp : tmps.getD p undef = .pointer (some ⟨g, 0, none⟩)) (hg : w.heap[g]? = some (.cells cs t fr))
    (hu : P.underlying ty = some d) (hd : (match d with | .struct _ | .array _ _ => true | _ => false) = true) (hi : (P.info? ty).map (·.size) = some cs.size) :
    (results fn tmps).run P w = .ok (.tuple #[.agg cs, tmps.getD u undef]) w := by
  have hp' : tmps[p]?.getD undef = .pointer (some ⟨g, 0, none⟩) := by simpa using hp
  simp [results, h, hp', asAddr, run_loadVar_row w g t ty cs fr d hg hu hd hi]
/-- What 'before' hands back. -/
def RetBefore (o : Option Opn) (w : World) (e : Ending) (w' : World) : Prop := e = .returned (.tuple #[.agg #[.bool (o.getD opZero).wr, .int .i64 (o.getD opZero).key, .int .i64 (o.getD opZero).val], .bool o.isSome]) ∧ Ch nob w w'
set_option maxRecDepth 20000 in
set_option maxHeartbeats 1000000 in
theorem before_ref05 (w : World) (v : Value) (xs : List Opn) (at_ : Nat) (k : Int) (hv : Opl w v xs) (ha : at_ ≤ xs.length) (hn : xs.length ≤ 1000000) :
    Calls Tryd.prog 22 #[v, .int .i64 at_, .int .i64 k] w (RetBefore (lastAt xs at_ k) w) := by
  obtain ⟨A, cp, rfl⟩ := hv.shape
  have HV := Lib.hid hv
  obtain ⟨n, hn2⟩ : ∃ n, xs.length = n := ⟨_, rfl⟩
  have HN := Lib.hid hn2
  rw [hn2] at hn HV ha ⊢
  obtain ⟨hb0, hc0, _⟩ := one_new w #[.bool false, .int .i64 0, .int .i64 0] 33
  have HB0 := Lib.hid hb0
  clear hv hn2 hb0
  go_enter Tryd.func22, Tryd.ntmps22
  go_wp2_with fail
  go_loopw [8] (fun x wr => ∃ (j : Nat) (z : Int), x = .int .i64 z ∧ Hid (z + 1 = (j : Int)) ∧ j ≤ at_ ∧ Hid (lastAt xs at_ k = lastAt xs j k) ∧ wr = w.alloc (.cells #[.bool false, .int .i64 0, .int .i64 0] 33)) (fun x _ => (intOf x + 1).toNat)
  case atStart => exact ⟨at_, (at_ : Int) - 1, rfl, Lib.hid (by omega), Nat.le_refl _, Lib.hid rfl, rfl⟩
  case round =>
    obtain ⟨j, z, rfl, hz, hj, hl, rfl⟩ := hrel
    rcases j with _ | q
    · obtain rfl : z = -1 := by have := hz.out; omega
      have HF := Lib.hid (show lastAt xs at_ k = none from hl.out)
      clear hz hl
      go_wp2_with fail
      exact bodyPost_ret (results_cell_row2 rfl _ _ w.heap.size 33 #[.bool false, .int .i64 0, .int .i64 0] (0, 0) _ rfl (Blk.new _ _ _) rfl rfl (by kernel_rfl)) rfl ⟨(by rw [HF.out]; rfl), (Ch.refl _ _).alloc _⟩
    · obtain rfl : z = (q : Int) := by have := hz.out; omega
      clear hz
      have hq : q < n := by omega
      obtain ⟨ad, rfl, hx0, hx1, hx2⟩ := (HV.out.keep hc0).at.2.2 q (by rw [HN.out]; exact hq)
      obtain ⟨x, hx⟩ : ∃ x, xs.getD q opZero = x := ⟨_, rfl⟩
      rw [hx] at hx0 hx1 hx2
      have HX := Lib.hid hx
      clear hx
      by_cases he : x.key = k
      · have HF := Lib.hid (show lastAt xs at_ k = some x from by
          rw [hl.out]
          show (if (xs.getD q opZero).key = k then some (xs.getD q opZero) else lastAt xs q k) = _
          rw [HX.out, if_pos he])
        have hd : (x.key == k) = true := by simp [he]
        clear hl he
        go_wp2_with fail
        exact bodyPost_ret (results_cell_row2 rfl _ _ w.heap.size 33 #[.bool x.wr, .int .i64 x.key, .int .i64 x.val] (0, 0) _ rfl (Blk.new _ _ _) rfl rfl (by kernel_rfl)) rfl ⟨(by rw [HF.out]; rfl), (Ch.refl _ _).alloc _⟩
      · have HF := Lib.hid (show lastAt xs at_ k = lastAt xs q k from by
          rw [hl.out]
          show (if (xs.getD q opZero).key = k then some (xs.getD q opZero) else lastAt xs q k) = _
          rw [HX.out, if_neg he])
        have hd : (x.key == k) = false := by simp [he]
        clear hl he
        go_wp2_with fail
        go_roundw
        case rel => exact ⟨q, (q : Int) - 1, by go_num, Lib.hid (by omega), by omega, HF, trivial⟩
        case measure => simp [intOf]
def steadyO (o : Option Opn) (x : Opn) : Bool := match o with
  | some o => x.wr || o.val == x.val
  | none => true
theorem steadyAt_eq (xs : List Opn) (i : Nat) (x : Opn) (h : xs.getD i opZero = x) : steadyAt xs i = steadyO (lastAt xs i x.key) x := by subst h; rfl
set_option maxHeartbeats 2000000 in
theorem steady_ref05 (w : World) (v : Value) (xs : List Opn) (hv : Opl w v xs) (hn : xs.length ≤ 1000000) :
    Calls Tryd.prog 11 #[v] w fun e w' => e = .returned (.bool (steadyB xs)) ∧ Ch nob w w' := by
  obtain ⟨A, cp, rfl⟩ := hv.shape
  have HV := Lib.hid hv
  obtain ⟨n, hn2⟩ : ∃ n, xs.length = n := ⟨_, rfl⟩
  have HN := Lib.hid hn2
  rw [hn2] at hn HV ⊢
  clear hv hn2
  go_enter Tryd.func11, Tryd.ntmps11
  go_wp2_with fail
  go_loopw [3] (fun x wr => ∃ i : Nat, x = .int .i64 i ∧ i ≤ n ∧ Hid (∀ j, j < i → steadyAt xs j = true) ∧ Ch nob w wr) (fun x _ => n - (intOf x).toNat)
  case atStart => exact ⟨0, rfl, Nat.zero_le _, Lib.hid (fun j hj => by omega), Ch.refl _ _⟩
  case round =>
    obtain ⟨i, rfl, hi, hst, hc⟩ := hrel
    by_cases hlt : i < n
    · have hd : decide ((i : Int) < (n : Int)) = true := decide_eq_true (by omega)
      have hv1 := HV.out.keep hc
      obtain ⟨ad, rfl, hx0, hx1, hx2⟩ := hv1.at.2.2 i (by rw [HN.out]; exact hlt)
      obtain ⟨x, hx⟩ : ∃ x, xs.getD i opZero = x := ⟨_, rfl⟩
      rw [hx] at hx0 hx1 hx2
      have HX := Lib.hid hx
      have HA := Lib.hid (steadyAt_eq xs i x hx)
      have HI := Lib.hid (show i < xs.length from by rw [HN.out]; exact hlt)
      have HB := Lib.hid (before_ref05 wr _ xs i x.key hv1 (by rw [HN.out]; exact hi) (by rw [HN.out]; exact hn))
      clear hx hv1
      go_wp2_with fail
      refine HB.out.mono ?_
      rintro e w1 ⟨rfl, hc1⟩
      have hc2 := hc.seq hc1
      clear hx0 hx1 hx2 hc hc1 HB
      obtain ⟨o, ho⟩ : ∃ o, lastAt xs i x.key = o := ⟨_, rfl⟩
      rw [ho]
      have HO := Lib.hid (show steadyAt xs i = steadyO o x from by rw [HA.out, ho])
      clear ho HA
      have hc3 : Ch nob w (w1.alloc (.cells #[.bool (o.getD opZero).wr, .int .i64 (o.getD opZero).key, .int .i64 (o.getD opZero).val] 33)) := hc2.alloc _
      obtain ⟨ad2, he, hx0, hx1, hx2⟩ := (HV.out.keep hc3).at.2.2 i (by rw [HN.out]; exact hlt)
      cases he
      rw [HX.out] at hx0 hx1 hx2
      have hi0 : (0 : Int) ≤ (i : Int) := by omega
      have hi1 : (i : Int) < (n : Int) := by omega
      obtain ⟨xw, xk, xv⟩ := x
      have hy2 := (Blk.new w1 #[.bool (o.getD opZero).wr, .int .i64 (o.getD opZero).key, .int .i64 (o.getD opZero).val] 33).cell (i := 2) (v := .int .i64 (o.getD opZero).val) rfl
      have hgo : steadyAt xs i = true → Hid (∀ j, j < i + 1 → steadyAt xs j = true) := fun h2 => Lib.hid (fun j hj => by
          by_cases e : j = i
          · rw [e]; exact h2
          · exact hst.out j (by omega))
      have HG := Lib.hid hgo
      clear hgo hst
      cases o with
      | none =>
        have HT := HG.out HO.out
        have X0 := fun u : Ext _ => Ext.cell hx0 u
        have X1 := fun u : Ext _ => Ext.cell hx1 u
        have X2 := fun u : Ext _ => Ext.cell hx2 u
        have Y2 := fun u : Ext _ => Ext.cell hy2 u
        go_wp2_with fail
        refine wp_region_ch (w0 := _) (by kernel_rfl) (by kernel_rfl) (Ch.refl _ _) ?_
        repeat go_big_quiet_step (fail)
        refine wpQuiet_nil ?_
        rintro wq ⟨⟨_, hcq⟩, rfl⟩
        have hc4 := hc3.seq hcq
        clear X0 X1 X2 Y2 hx0 hx1 hx2 hy2 hcq hc3 hc2
        go_wp2_with fail
        go_roundw
        case rel => exact ⟨i + 1, by go_num, by omega, HT, hc4⟩
        case measure => simp [intOf]; omega
      | some o =>
        obtain ⟨ow, ok, ov⟩ := o
        cases xw with
        | true =>
          have HT := HG.out HO.out
          have X0 := fun u : Ext _ => Ext.cell hx0 u
          have X1 := fun u : Ext _ => Ext.cell hx1 u
          have X2 := fun u : Ext _ => Ext.cell hx2 u
          have Y2 := fun u : Ext _ => Ext.cell hy2 u
          go_wp2_with fail
          refine wp_region_ch (w0 := _) (by kernel_rfl) (by kernel_rfl) (Ch.refl _ _) ?_
          repeat go_big_quiet_step (fail)
          refine wpQuiet_nil ?_
          rintro wq ⟨⟨_, hcq⟩, rfl⟩
          have hc4 := hc3.seq hcq
          clear X0 X1 X2 Y2 hx0 hx1 hx2 hy2 hcq hc3 hc2
          go_wp2_with fail
          go_roundw
          case rel => exact ⟨i + 1, by go_num, by omega, HT, hc4⟩
          case measure => simp [intOf]; omega
        | false =>
          by_cases he : ov = xv
          · have hne : (ov != xv) = false := by rw [he]; exact bne_self_eq_false xv
            have HT := HG.out (by rw [HO.out]; simp [steadyO, he])
            clear he
            have X0 := fun u : Ext _ => Ext.cell hx0 u
            have X1 := fun u : Ext _ => Ext.cell hx1 u
            have X2 := fun u : Ext _ => Ext.cell hx2 u
            have Y2 := fun u : Ext _ => Ext.cell hy2 u
            go_wp2_with fail
            refine wp_region_ch (w0 := _) (by kernel_rfl) (by kernel_rfl) (Ch.refl _ _) ?_
            repeat go_big_quiet_step (fail)
            refine wpQuiet_nil ?_
            rintro wq ⟨⟨_, hcq⟩, rfl⟩
            have hc4 := hc3.seq hcq
            clear X0 X1 X2 Y2 hx0 hx1 hx2 hy2 hcq hc3 hc2
            go_wp2_with fail
            go_roundw
            case rel => exact ⟨i + 1, by go_num, by omega, HT, hc4⟩
            case measure => simp [intOf]; omega
          · have hne : (ov != xv) = true := by simp [he]
            have HF := Lib.hid (show steadyB xs = false from steady_no HI.out (by rw [HO.out]; simp [steadyO, he]))
            clear he
            have X0 := fun u : Ext _ => Ext.cell hx0 u
            have X1 := fun u : Ext _ => Ext.cell hx1 u
            have X2 := fun u : Ext _ => Ext.cell hx2 u
            have Y2 := fun u : Ext _ => Ext.cell hy2 u
            go_wp2_with fail
            refine wp_region_ch (w0 := _) (by kernel_rfl) (by kernel_rfl) (Ch.refl _ _) ?_
            repeat go_big_quiet_step (fail)
            refine wpQuiet_nil ?_
            rintro wq ⟨⟨_, hcq⟩, rfl⟩
            have hc4 := hc3.seq hcq
            clear X0 X1 X2 Y2 hx0 hx1 hx2 hy2 hcq hc3 hc2
            go_wp2_with fail
            go_ret
            exact ⟨ret_bool HF.out.symm, hc4⟩
    · have hd : decide ((i : Int) < (n : Int)) = false := decide_eq_false (by omega)
      have HF := Lib.hid (show steadyB xs = true from steady_all (fun j hj => hst.out j (by have := HN.out; omega)))
      go_wp2_with fail
      go_ret
      exact ⟨ret_bool HF.out.symm, hc⟩
end Go.Proofs.YtobfanodjdkkoaaDoor
