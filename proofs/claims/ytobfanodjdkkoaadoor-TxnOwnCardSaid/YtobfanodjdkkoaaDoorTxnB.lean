/- The program's account of a transaction: what is read of others. No condition but each theorem's own. -/
import Derived.Test.YtobfanodjdkkoaaDoorTxnA
set_option linter.unusedVariables false
set_option linter.unusedSimpArgs false
namespace Go.Proofs.YtobfanodjdkkoaaDoor
open Go.RowKit Go.Maps

/-- Is the i-th one the first one of its key, and a read? -/
def readAt (xs : List Opn) (i : Nat) : Bool := (lastAt xs i (xs.getD i opZero).key).isNone && !(xs.getD i opZero).wr
def readsTo (xs : List Opn) : Nat → List Opn
  | 0 => []
  | i + 1 => if readAt xs i then readsTo xs i ++ [xs.getD i opZero] else readsTo xs i
theorem readsTo_len (xs : List Opn) : ∀ i, (readsTo xs i).length ≤ i
  | 0 => Nat.le_refl _
  | i + 1 => by
    have := readsTo_len xs i
    unfold readsTo
    split
    · rw [List.length_append]; simp; omega
    · omega
theorem readsTo_succ (xs : List Opn) (i : Nat) : readsTo xs (i + 1) = if readAt xs i then readsTo xs i ++ [xs.getD i opZero] else readsTo xs i := rfl
def seenF (xs : List Opn) (i : Nat) : Int → Option Value := fun k => (lastAt xs i k).map fun _ => .agg #[]
theorem seenF_succ (xs : List Opn) (i : Nat) (x : Opn) (h : xs.getD i opZero = x) : putM (seenF xs i) x.key (.agg #[]) = seenF xs (i + 1) := by
  funext k
  unfold putM seenF
  show _ = Option.map _ (if (xs.getD i opZero).key = k then some (xs.getD i opZero) else lastAt xs i k)
  rw [h]
  by_cases e : k = x.key
  · subst e
    rw [if_pos rfl, if_pos rfl]
    rfl
  · rw [if_neg e, if_neg (fun e2 => e e2.symm)]
theorem under_mis : Tryd.prog.underlying 39 = some (.map 3 40) := by kernel_rfl
theorem zero_s (w : World) : (zeroValue 40).run Tryd.prog w = .ok (.agg #[]) w := by kernel_rfl
theorem OwnO.base {w : World} {base base' e : Nat} {v : Value} {xs : List Opn} (h : OwnO w base e v xs) (hb : base' ≤ base) : OwnO w base' e v xs := by
  obtain ⟨h1, h2⟩ := h
  refine ⟨h1, ?_⟩
  rcases h2 with h2 | ⟨g, cap, cur, k1, k2, k3⟩
  · exact .inl h2
  · exact .inr ⟨g, cap, cur, k1, Nat.le_trans hb k2, k3⟩
theorem ch_of_grown {w w' : World} {row : Option Nat} (h : w.grownBy w' row) : Ch (fun k => row = some k) w w' := (Ch.refl _ _).grown h fun _ _ e => e
/-- A fresh row of operations, sorted out of these. -/
def RetRow (w : World) (xs : List Opn) (e : Ending) (w' : World) : Prop := ∃ v ys, e = .returned v ∧ OwnO w' w.heap.size 33 v ys ∧ Sorts xs ys ∧ Ch nob w w'

set_option maxRecDepth 100000 in
set_option maxHeartbeats 2000000 in
theorem reads (w : World) (v : Value) (xs : List Opn) (p q r : Int) (hv : Opl w v xs) (hk : KeysOk xs) (hn : xs.length ≤ 1000000) :
    Calls Tryd.prog 8 #[.agg #[.int .i64 p, .int .i64 q, .int .i64 r, v]] w (RetRow w (readsTo xs xs.length)) := by
  obtain ⟨A, cp, rfl⟩ := hv.shape
  have HV := Lib.hid hv
  have HK := Lib.hid hk
  have hmm := @run_makeMap Tryd.prog
  obtain ⟨n, hn2⟩ : ∃ n, xs.length = n := ⟨_, rfl⟩
  have HN := Lib.hid hn2
  rw [hn2] at hn HV ⊢
  have hc0 : Ch nob w ((w.alloc (.cells #[.int .i64 p, .int .i64 q, .int .i64 r, .slice A n cp] 26)).alloc (.map #[] 0)) := ((Ch.refl _ _).alloc _).alloc _
  have hm0 : IMap Tryd.prog 3 ((w.alloc (.cells #[.int .i64 p, .int .i64 q, .int .i64 r, .slice A n cp] 26)).alloc (.map #[] 0)) (w.heap.size + 1) 0 (seenF xs 0) := by
    have := IMap.made Tryd.prog 3 (w.alloc (.cells #[.int .i64 p, .int .i64 q, .int .i64 r, .slice A n cp] 26))
    rw [show seenF xs 0 = fun _ => none from rfl]
    simpa using this
  have ho0 : OwnO ((w.alloc (.cells #[.int .i64 p, .int .i64 q, .int .i64 r, .slice A n cp] 26)).alloc (.map #[] 0)) (w.heap.size + 2) 33 (.slice none 0 0) (readsTo xs 0) := OwnO.nil _ _ _
  have hz0 : w.heap.size + 2 ≤ ((w.alloc (.cells #[.int .i64 p, .int .i64 q, .int .i64 r, .slice A n cp] 26)).alloc (.map #[] 0)).heap.size := by simp
  clear hv hk hn2
  go_enter Tryd.func8, Tryd.ntmps8
  go_wp2_with fail
  go_loopw [13, 4] (fun x y wr => ∃ i c : Nat, x = .int .i64 i ∧ i ≤ n ∧ c ≤ i ∧ Hid (IMap Tryd.prog 3 wr (w.heap.size + 1) c (seenF xs i)) ∧ Hid (OwnO wr (w.heap.size + 2) 33 y (readsTo xs i)) ∧ w.heap.size + 2 ≤ wr.heap.size ∧ Ch nob w wr) (fun x _ _ => n - (intOf x).toNat)
  case atStart => exact ⟨0, 0, rfl, Nat.zero_le _, Nat.le_refl _, Lib.hid hm0, Lib.hid ho0, hz0, hc0⟩
  case round =>
    clear hm0 hc0 hmm ho0 hz0
    obtain ⟨i, c, rfl, hi, hci, hm, ho, hz, hc⟩ := hrel
    by_cases hlt : i < n
    · have hd : decide ((i : Int) < (n : Int)) = true := decide_eq_true (by omega)
      obtain ⟨ad, rfl, hx0, hx1, hx2⟩ := (HV.out.keep hc).at.2.2 i (by rw [HN.out]; exact hlt)
      have hwf := HK.out i (by rw [HN.out]; exact hlt)
      obtain ⟨x, hx⟩ : ∃ x, xs.getD i opZero = x := ⟨_, rfl⟩
      rw [hx] at hx0 hx1 hx2 hwf
      have HS := Lib.hid (seenF_succ xs i x hx)
      have HA := Lib.hid (show readAt xs i = ((lastAt xs i x.key).isNone && !x.wr) from by unfold readAt; rw [hx])
      have HX := Lib.hid hx
      obtain ⟨xw, xk, xv⟩ := x
      have hc1 : Ch nob wr (wr.alloc (.cells #[.bool xw, .int .i64 xk, .int .i64 xv] 33)) := (Ch.refl _ _).alloc _
      have hc12 : Ch nob wr ((wr.alloc (.cells #[.bool xw, .int .i64 xk, .int .i64 xv] 33)).alloc (.cells #[] 40)) := hc1.alloc _
      have hm1 := hm.out.keep hc1
      have hm2 := hm.out.keep hc12
      have ho2 := Lib.hid (ho.out.keep hc12)
      have hc2 := hc.seq hc12
      have HGE := Lib.hid ho.out.ge
      clear hx hm hc ho
      have hlf : seenF xs i xk = (lastAt xs i xk).map fun _ => .agg #[] := rfl
      have hgo : ∀ w1, IMap Tryd.prog 3 w1 (w.heap.size + 1) (if (seenF xs i xk).isSome then c else c + 1) (putM (seenF xs i) xk (.agg #[])) → ∃ c : Nat, c ≤ i + 1 ∧ Hid (IMap Tryd.prog 3 w1 (w.heap.size + 1) c (seenF xs (i + 1))) := fun w1 h3 =>
        ⟨(if (seenF xs i xk).isSome then c else c + 1), by split <;> omega, Lib.hid (by rw [← HS.out]; exact h3)⟩
      have HG := Lib.hid hgo
      clear hgo hc1 hc12
      cases hL : lastAt xs i xk with
      | some o =>
        rw [hL, Option.map_some] at hlf
        have HT := Lib.hid (show readAt xs i = false from by rw [HA.out]; show ((lastAt xs i xk).isNone && !xw) = false; rw [hL]; rfl)
        have HL := Lib.hid hlf
        clear hL hlf
        go_wp2_with (first
          | (at_lookup; refine wpList_imap_look _ rfl _ _ 39 rfl 3 40 under_int under_mis _ (zero_s _) _ _ _ rfl hm1 _ rfl hwf ?_; rw [HL.out]; simp only [Option.getD_none, Option.getD_some, Option.isSome_none, Option.isSome_some])
          | (at_mapUpdate; refine wpList_imap_put _ rfl _ _ _ 39 rfl 3 40 under_int under_mis _ _ _ rfl hm2 (by unfold maxLen; omega) _ rfl hwf (.agg #[]) rfl ?_; intro w1 hm3 hc3))
        obtain ⟨c', g1, g2⟩ := HG.out w1 hm3
        have hc4 := hc2.fresh hc3 (by omega)
        have hw4 := hc3.size
        simp at hw4
        exact ⟨⟨i + 1, c', by go_num, by omega, g1, g2, Lib.hid (by rw [readsTo_succ, HT.out]; exact ho2.out.off hc3 (fun b hb => by have := (ho2.out.ge b hb).1; omega)), by omega, hc4⟩, by simp [intOf]; omega⟩
      | none =>
        rw [hL, Option.map_none] at hlf
        have HT0 := Lib.hid (show readAt xs i = !xw from by rw [HA.out]; show ((lastAt xs i xk).isNone && !xw) = _; rw [hL]; rfl)
        have HL := Lib.hid hlf
        clear hL hlf
        cases xw with
        | true =>
          have HT := Lib.hid (show readAt xs i = false from HT0.out)
          go_wp2_with (first
            | (at_lookup; refine wpList_imap_look _ rfl _ _ 39 rfl 3 40 under_int under_mis _ (zero_s _) _ _ _ rfl hm1 _ rfl hwf ?_; rw [HL.out]; simp only [Option.getD_none, Option.getD_some, Option.isSome_none, Option.isSome_some])
            | (at_mapUpdate; refine wpList_imap_put _ rfl _ _ _ 39 rfl 3 40 under_int under_mis _ _ _ rfl hm2 (by unfold maxLen; omega) _ rfl hwf (.agg #[]) rfl ?_; intro w1 hm3 hc3))
          obtain ⟨c', g1, g2⟩ := HG.out w1 hm3
          have hc4 := hc2.fresh hc3 (by omega)
          have hw4 := hc3.size
          simp at hw4
          exact ⟨⟨i + 1, c', by go_num, by omega, g1, g2, Lib.hid (by rw [readsTo_succ, HT.out]; exact ho2.out.off hc3 (fun b hb => by have := (ho2.out.ge b hb).1; omega)), by omega, hc4⟩, by simp [intOf]; omega⟩
        | false =>
          have HT := Lib.hid (show readAt xs i = true from HT0.out)
          obtain ⟨w2, hw2⟩ : ∃ w2, ((wr.alloc (.cells #[.bool false, .int .i64 xk, .int .i64 xv] 33)).alloc (.cells #[] 40)) = w2 := ⟨_, rfl⟩
          have HW := Lib.hid hw2
          have hnb := Lib.hid (Blk.new w2 #[.bool false, .int .i64 xk, .int .i64 xv] 33)
          have ho3 := Lib.hid (ho2.out.alloc (.cells #[.bool false, .int .i64 xk, .int .i64 xv] 33))
          have hxo := Lib.hid (((Blk.new wr #[.bool false, .int .i64 xk, .int .i64 xv] 33).alloc (.cells #[] 40)).alloc (.cells #[.bool false, .int .i64 xk, .int .i64 xv] 33))
          have hrl := readsTo_len xs i
          rw [hw2] at ho3 hm2
          have hm3 := hm2.keep ((Ch.refl _ _).alloc (.cells #[.bool false, .int .i64 xk, .int .i64 xv] 33))
          rw [hw2] at hc2
          have hc3 := hc2.alloc (.cells #[.bool false, .int .i64 xk, .int .i64 xv] 33)
          rw [← hw2] at hnb ho3 hm3 hc3
          clear hw2
          go_wp2_with (first
            | (at_lookup; refine wpList_imap_look _ rfl _ _ 39 rfl 3 40 under_int under_mis _ (zero_s _) _ _ _ rfl hm1 _ rfl hwf ?_; rw [HL.out]; simp only [Option.getD_none, Option.getD_some, Option.isSome_none, Option.isSome_some])
            | (at_builtin; refine wpList_append_op rfl (.tmp 31) (.tmp 33) 22 33 rfl elem_op (w.heap.size + 2) _ (readsTo xs i) rfl ho3.out _ ⟨false, xk, xv⟩ 33 rfl (by simpa using hnb.out) (by omega) (by simp; omega) ?_; intro v3 w3 hown3 hg3; have hm4 := hm3.ch (ch_of_grown hg3) (fun e => by have := (ho3.out.ge _ e).1; omega); have hc4 := hc3.grown_own hg3 (fun b hb => by have := (ho3.out.ge b hb).1; omega); have hz4 := hg3.size; have hxc := (hxo.out.ch (ch_of_grown hg3) (fun e => by have := (HGE.out _ e).2; omega)).cell (i := 1) rfl)
            | (at_mapUpdate; refine wpList_imap_put _ rfl _ _ _ 39 rfl 3 40 under_int under_mis _ _ _ rfl hm4 (by unfold maxLen; omega) _ rfl hwf (.agg #[]) rfl ?_; intro w1 hm5 hc5))
          obtain ⟨c', g1, g2⟩ := HG.out w1 hm5
          have hc6 := hc4.fresh hc5 (by omega)
          have hw4 := hc5.size
          simp at hz4
          exact ⟨⟨i + 1, c', by go_num, by omega, g1, g2, Lib.hid (by rw [readsTo_succ, HT.out, HX.out]; exact hown3.off hc5 (fun b hb => by have := (hown3.ge b hb).1; omega)), by omega, hc6⟩, by simp [intOf]; omega⟩
    · have hd : decide ((i : Int) < (n : Int)) = false := decide_eq_false (by omega)
      obtain rfl : i = n := by omega
      go_wp2_with fail
      refine (by_key_row _ (w.heap.size + 2) _ (readsTo xs i) ho.out (by have := readsTo_len xs i; omega) hz).mono ?_
      rintro e w2 ⟨ys, rfl, ho2, hs2, hc2⟩
      have HO := Lib.hid (ho2.base (show w.heap.size ≤ w.heap.size + 2 by omega))
      have HS := Lib.hid hs2
      have hc3 : Ch nob w w2 := hc.trans hc2 (fun k hk e => by have := (ho.out.ge k e).1; omega)
      clear ho2 hs2 hc2 hc hm ho
      go_wp2_with fail
      go_ret
      exact ⟨_, ys, rfl, HO.out, HS.out, hc3⟩
end Go.Proofs.YtobfanodjdkkoaaDoor
