/- The program's account of a transaction: is it steady? No condition but each theorem's own. -/
import Derived.Test.YtobfanodjdkkoaaDoorOpl
import Derived.Test.YtobfanodjdkkoaaDoorMap
set_option linter.unusedVariables false
set_option linter.unusedSimpArgs false
namespace Go.Proofs.YtobfanodjdkkoaaDoor
open Go.RowKit Go.Maps

/-- The last one of some key, of the first i. -/
def lastAt (xs : List Opn) : Nat → Int → Option Opn
  | 0, _ => none
  | i + 1, k => if (xs.getD i opZero).key = k then some (xs.getD i opZero) else lastAt xs i k
def steadyAt (xs : List Opn) (i : Nat) : Bool := match lastAt xs i (xs.getD i opZero).key with
  | some o => (xs.getD i opZero).wr || o.val == (xs.getD i opZero).val
  | none => true
def steadyB (xs : List Opn) : Bool := (List.range xs.length).all (steadyAt xs)
theorem steady_no {xs : List Opn} {i : Nat} (hi : i < xs.length) (h : steadyAt xs i = false) : steadyB xs = false := by
  unfold steadyB
  rw [List.all_eq_false]
  exact ⟨i, List.mem_range.2 hi, by simp [h]⟩
theorem steady_all {xs : List Opn} (h : ∀ i, i < xs.length → steadyAt xs i = true) : steadyB xs = true := by
  unfold steadyB
  rw [List.all_eq_true]
  intro i hi
  exact h i (List.mem_range.1 hi)
def KeysOk (xs : List Opn) : Prop := ∀ i, i < xs.length → (Lit.int .i64 (xs.getD i opZero).key).wf = true
def lastF (xs : List Opn) (i : Nat) : Int → Option Value := fun k => (lastAt xs i k).map fun o => .int .i64 o.val
theorem lastF_succ (xs : List Opn) (i : Nat) (x : Opn) (h : xs.getD i opZero = x) : putM (lastF xs i) x.key (.int .i64 x.val) = lastF xs (i + 1) := by
  funext k
  unfold putM lastF
  show _ = Option.map _ (if (xs.getD i opZero).key = k then some (xs.getD i opZero) else lastAt xs i k)
  rw [h]
  by_cases e : k = x.key
  · subst e
    rw [if_pos rfl, if_pos rfl]
    rfl
  · rw [if_neg e, if_neg (fun e2 => e e2.symm)]
theorem under_int : Tryd.prog.underlying 3 = some (.int .i64) := by kernel_rfl
theorem under_mii : Tryd.prog.underlying 43 = some (.map 3 3) := by kernel_rfl
theorem zero_i (w : World) : (zeroValue 3).run Tryd.prog w = .ok (.int .i64 0) w := by kernel_rfl

set_option maxHeartbeats 2000000 in
theorem steady (w : World) (v : Value) (xs : List Opn) (p q r : Int) (hv : Opl w v xs) (hk : KeysOk xs) (hn : xs.length ≤ 1000000) :
    Calls Tryd.prog 10 #[.agg #[.int .i64 p, .int .i64 q, .int .i64 r, v]] w fun e w' => e = .returned (.bool (steadyB xs)) ∧ Ch nob w w' := by
  obtain ⟨A, cp, rfl⟩ := hv.shape
  have HV := Lib.hid hv
  have HK := Lib.hid hk
  have hmm := @run_makeMap Tryd.prog
  obtain ⟨n, hn2⟩ : ∃ n, xs.length = n := ⟨_, rfl⟩
  have HN := Lib.hid hn2
  rw [hn2] at hn HV ⊢
  have hc0 : Ch nob w ((w.alloc (.cells #[.int .i64 p, .int .i64 q, .int .i64 r, .slice A n cp] 26)).alloc (.map #[] 0)) := ((Ch.refl _ _).alloc _).alloc _
  have hm0 : IMap Tryd.prog 3 ((w.alloc (.cells #[.int .i64 p, .int .i64 q, .int .i64 r, .slice A n cp] 26)).alloc (.map #[] 0)) (w.heap.size + 1) 0 (lastF xs 0) := by
    have := IMap.made Tryd.prog 3 (w.alloc (.cells #[.int .i64 p, .int .i64 q, .int .i64 r, .slice A n cp] 26))
    rw [show lastF xs 0 = fun _ => none from rfl]
    simpa using this
  clear hv hk hn2
  go_enter Tryd.func10, Tryd.ntmps10
  go_wp2_with fail
  go_loopw [12] (fun x wr => ∃ i c : Nat, x = .int .i64 i ∧ i ≤ n ∧ c ≤ i ∧ Hid (IMap Tryd.prog 3 wr (w.heap.size + 1) c (lastF xs i)) ∧ Hid (∀ j, j < i → steadyAt xs j = true) ∧ Ch nob w wr) (fun x _ => n - (intOf x).toNat)
  case atStart => exact ⟨0, 0, rfl, Nat.zero_le _, Nat.le_refl _, Lib.hid hm0, Lib.hid (fun j hj => by omega), hc0⟩
  case round =>
    clear hm0 hc0 hmm
    obtain ⟨i, c, rfl, hi, hci, hm, hst, hc⟩ := hrel
    by_cases hlt : i < n
    · have hd : decide ((i : Int) < (n : Int)) = true := decide_eq_true (by omega)
      obtain ⟨ad, rfl, hx0, hx1, hx2⟩ := (HV.out.keep hc).at.2.2 i (by rw [HN.out]; exact hlt)
      have hwf := HK.out i (by rw [HN.out]; exact hlt)
      obtain ⟨x, hx⟩ : ∃ x, xs.getD i opZero = x := ⟨_, rfl⟩
      rw [hx] at hx0 hx1 hx2 hwf
      have HS := Lib.hid (lastF_succ xs i x hx)
      have HX := Lib.hid hx
      have HA := Lib.hid (show steadyAt xs i = (match lastAt xs i x.key with | some o => x.wr || o.val == x.val | none => true) from by unfold steadyAt; rw [hx])
      have HI := Lib.hid (show i < xs.length from by rw [HN.out]; exact hlt)
      obtain ⟨xw, xk, xv⟩ := x
      have hm1 : IMap Tryd.prog 3 (wr.alloc (.cells #[.bool xw, .int .i64 xk, .int .i64 xv] 33)) (w.heap.size + 1) c (lastF xs i) := hm.out.keep ((Ch.refl _ _).alloc _)
      have hc2 : Ch nob w (wr.alloc (.cells #[.bool xw, .int .i64 xk, .int .i64 xv] 33)) := hc.alloc _
      clear hx hm hc
      have hlf : lastF xs i xk = (lastAt xs i xk).map fun o => .int .i64 o.val := rfl
      have hgo : ∀ w1, Ch nob w w1 → steadyAt xs i = true → IMap Tryd.prog 3 w1 (w.heap.size + 1) (if (lastF xs i xk).isSome then c else c + 1) (putM (lastF xs i) xk (.int .i64 xv)) → ∃ c : Nat, c ≤ i + 1 ∧ Hid (IMap Tryd.prog 3 w1 (w.heap.size + 1) c (lastF xs (i + 1))) ∧ Hid (∀ j, j < i + 1 → steadyAt xs j = true) ∧ Ch nob w w1 := fun w1 h1 h2 h3 =>
        ⟨(if (lastF xs i xk).isSome then c else c + 1), by split <;> omega, Lib.hid (by rw [← HS.out]; exact h3), Lib.hid (fun j hj => by
          by_cases e : j = i
          · rw [e]; exact h2
          · exact hst.out j (by omega)), h1⟩
      have HG := Lib.hid hgo
      clear hgo
      cases hL : lastAt xs i xk with
      | none =>
        rw [hL, Option.map_none] at hlf
        have HT := Lib.hid (show steadyAt xs i = true from by rw [HA.out]; show (match lastAt xs i xk with | some o => xw || o.val == xv | none => true) = true; rw [hL])
        have HL := Lib.hid hlf
        clear hL hlf
        go_wp2_with (first
          | (at_lookup; refine wpList_imap_look _ rfl _ _ 43 rfl 3 3 under_int under_mii _ (zero_i _) _ _ _ rfl hm1 _ rfl hwf ?_; rw [HL.out]; simp only [Option.getD_none, Option.getD_some, Option.isSome_none, Option.isSome_some])
          | (at_mapUpdate; refine wpList_imap_put _ rfl _ _ _ 43 rfl 3 3 under_int under_mii _ _ _ rfl hm1 (by unfold maxLen; omega) _ rfl hwf (.int .i64 xv) rfl ?_; intro w1 hm2 hc3))
        obtain ⟨c', g1, g2, g3, g4⟩ := HG.out w1 (hc2.fresh hc3 (by omega)) HT.out hm2
        exact ⟨⟨i + 1, c', by go_num, by omega, g1, g2, g3, g4⟩, by simp [intOf]; omega⟩
      | some o =>
        rw [hL, Option.map_some] at hlf
        have HT0 := Lib.hid (show steadyAt xs i = (xw || o.val == xv) from by rw [HA.out]; show (match lastAt xs i xk with | some o => xw || o.val == xv | none => true) = _; rw [hL])
        obtain ⟨ov, hov⟩ : ∃ ov, o.val = ov := ⟨_, rfl⟩
        rw [hov] at hlf HT0
        have HL := Lib.hid hlf
        clear hL hlf hov
        cases xw with
        | true =>
          have HT := Lib.hid (show steadyAt xs i = true from by rw [HT0.out]; rfl)
          go_wp2_with (first
            | (at_lookup; refine wpList_imap_look _ rfl _ _ 43 rfl 3 3 under_int under_mii _ (zero_i _) _ _ _ rfl hm1 _ rfl hwf ?_; rw [HL.out]; simp only [Option.getD_none, Option.getD_some, Option.isSome_none, Option.isSome_some])
            | (at_mapUpdate; refine wpList_imap_put _ rfl _ _ _ 43 rfl 3 3 under_int under_mii _ _ _ rfl hm1 (by unfold maxLen; omega) _ rfl hwf (.int .i64 xv) rfl ?_; intro w1 hm2 hc3))
          obtain ⟨c', g1, g2, g3, g4⟩ := HG.out w1 (hc2.fresh hc3 (by omega)) HT.out hm2
          exact ⟨⟨i + 1, c', by go_num, by omega, g1, g2, g3, g4⟩, by simp [intOf]; omega⟩
        | false =>
          by_cases he : ov = xv
          · have hne : (ov != xv) = false := by rw [he]; exact bne_self_eq_false xv
            have HT := Lib.hid (show steadyAt xs i = true from by rw [HT0.out, he]; simp)
            clear he
            go_wp2_with (first
              | (at_lookup; refine wpList_imap_look _ rfl _ _ 43 rfl 3 3 under_int under_mii _ (zero_i _) _ _ _ rfl hm1 _ rfl hwf ?_; rw [HL.out]; simp only [Option.getD_none, Option.getD_some, Option.isSome_none, Option.isSome_some])
              | (at_mapUpdate; refine wpList_imap_put _ rfl _ _ _ 43 rfl 3 3 under_int under_mii _ _ _ rfl hm1 (by unfold maxLen; omega) _ rfl hwf (.int .i64 xv) rfl ?_; intro w1 hm2 hc3))
            obtain ⟨c', g1, g2, g3, g4⟩ := HG.out w1 (hc2.fresh hc3 (by omega)) HT.out hm2
            exact ⟨⟨i + 1, c', by go_num, by omega, g1, g2, g3, g4⟩, by simp [intOf]; omega⟩
          · have hne : (ov != xv) = true := by simp [he]
            have HF := Lib.hid (show steadyB xs = false from steady_no HI.out (by rw [HT0.out]; simp [he]))
            clear he
            go_wp2_with (first
              | (at_lookup; refine wpList_imap_look _ rfl _ _ 43 rfl 3 3 under_int under_mii _ (zero_i _) _ _ _ rfl hm1 _ rfl hwf ?_; rw [HL.out]; simp only [Option.getD_none, Option.getD_some, Option.isSome_none, Option.isSome_some])
              | (at_mapUpdate; refine wpList_imap_put _ rfl _ _ _ 43 rfl 3 3 under_int under_mii _ _ _ rfl hm1 (by unfold maxLen; omega) _ rfl hwf (.int .i64 xv) rfl ?_; intro w1 hm2 hc3))
            go_ret
            exact ⟨ret_bool HF.out.symm, hc2⟩
    · have hd : decide ((i : Int) < (n : Int)) = false := decide_eq_false (by omega)
      have HF := Lib.hid (show steadyB xs = true from steady_all (fun j hj => hst.out j (by have := HN.out; omega)))
      go_wp2_with fail
      go_ret
      exact ⟨ret_bool HF.out.symm, hc⟩
end Go.Proofs.YtobfanodjdkkoaaDoor
