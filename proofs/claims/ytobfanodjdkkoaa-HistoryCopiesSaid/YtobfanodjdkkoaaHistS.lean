/- Do the stamps of a history fit, by the program (history.stamps)? No condition but each theorem's own. -/
import Derived.Test.YtobfanodjdkkoaaHistW
set_option linter.unusedVariables false
set_option linter.unusedSimpArgs false
namespace Go.Proofs.Ytobfanodjdkkoaa
open Go.RowKit Go.Maps

/-- What was seen, and when each session's last one committed. -/
structure St where
  seen : Int → Bool
  last : Int → Option Int
def St.zero : St := ⟨fun _ => false, fun _ => none⟩
def addB (f : Int → Bool) (k : Int) : Int → Bool := fun x => x == k || f x
def putI (f : Int → Option Int) (k v : Int) : Int → Option Int := fun x => if x = k then some v else f x
def overB (o : Option Int) (b : Int) : Bool := match o with | some e => decide (b < e) | none => false
def stStep (S : St) (t : Txr) : Option St :=
  if S.seen t.beg || addB S.seen t.beg t.com || overB (S.last t.ses) t.beg then none else some ⟨addB (addB S.seen t.beg) t.com, putI S.last t.ses t.com⟩
def stF (hs : List Txr) : Nat → Option St
  | 0 => some St.zero
  | i + 1 => (stF hs i).bind fun S => stStep S (hs.getD i txrZero)
theorem stF_none {hs : List Txr} {i j : Nat} (hij : i ≤ j) (h : stF hs i = none) : stF hs j = none := by
  induction j with
  | zero => obtain rfl : i = 0 := by omega
            exact h
  | succ j ih =>
    by_cases e : i = j + 1
    · rw [← e]; exact h
    · unfold stF; rw [ih (by omega)]; rfl
theorem stF_no {hs : List Txr} {i : Nat} {S : St} {t : Txr} (h : stF hs i = some S) (ht : hs.getD i txrZero = t) (hi : i < hs.length) (h2 : (S.seen t.beg || addB S.seen t.beg t.com || overB (S.last t.ses) t.beg) = true) : (stF hs hs.length).isSome = false := by
  rw [stF_none (i := i + 1) (by omega)]
  · rfl
  · unfold stF; rw [h, ht]; show stStep S t = none; unfold stStep; rw [if_pos h2]
theorem stF_yes {hs : List Txr} {i : Nat} {S : St} {t : Txr} (h : stF hs i = some S) (ht : hs.getD i txrZero = t) (h2 : (S.seen t.beg || addB S.seen t.beg t.com || overB (S.last t.ses) t.beg) = false) : stF hs (i + 1) = some ⟨addB (addB S.seen t.beg) t.com, putI S.last t.ses t.com⟩ := by
  unfold stF; rw [h, ht]; show stStep S t = _; unfold stStep; rw [if_neg (by rw [h2]; decide)]
def sawF (f : Int → Bool) : Int → Option Value := fun k => if f k then some (.agg #[]) else none
def lastIF (f : Int → Option Int) : Int → Option Value := fun k => (f k).map fun v => .int .i64 v
theorem sawF_put (f : Int → Bool) (k : Int) : putM (sawF f) k (.agg #[]) = sawF (addB f k) := by
  funext x
  unfold putM sawF addB
  by_cases e : x = k <;> simp [e]
theorem lastIF_put (f : Int → Option Int) (k v : Int) : putM (lastIF f) k (.int .i64 v) = lastIF (putI f k v) := by
  funext x
  unfold putM lastIF putI
  split <;> rfl
theorem sawF_yes {f : Int → Bool} {k : Int} (h : f k = true) : sawF f k = some (.agg #[]) := by unfold sawF; rw [if_pos h]
theorem sawF_no {f : Int → Bool} {k : Int} (h : f k = false) : sawF f k = none := by unfold sawF; rw [if_neg (by rw [h]; decide)]
/-- The two stamps of a transaction, one behind the other. -/
def stampAt (b c : Int) (k : Nat) : Int := if k = 0 then b else c
def sawTo (f : Int → Bool) (b c : Int) : Nat → Int → Bool
  | 0 => f
  | k + 1 => addB (sawTo f b c k) (stampAt b c k)
theorem stamp_index (b c : Int) (k : Nat) (hk : k < 2) (w : World) : (Instr.index 104 (.agg #[.int .i64 b, .int .i64 c]) (.int .i64 k)).run Try.prog w = .ok (.int .i64 (stampAt b c k)) w :=
  run_index_one (e := 3) (len := 2) (by kernel_rfl) w (by kernel_rfl) (by kernel_rfl) _ _ _ _ (by omega) (by omega) (by
    obtain rfl | rfl : k = 0 ∨ k = 1 := by omega
    · rfl
    · rfl)

set_option maxRecDepth 100000 in
set_option maxHeartbeats 4000000 in
theorem stamps_history (w : World) (v : Value) (hs : List Txr) (hv : Txns w v hs) (hk : TxnsOk hs) (hn : hs.length ≤ 1000000) : Calls Try.prog 45 #[v] w fun e w' => e = .returned (.bool (stF hs hs.length).isSome) ∧ Ch nob w w' := by
  obtain ⟨A, cp, rfl⟩ := hv.shape
  have HV := Lib.hid hv
  have HK := Lib.hid hk
  have hmm := @run_makeMap Try.prog
  obtain ⟨_, ⟨_, hlen⟩, _⟩ := hv.at
  obtain ⟨n, hn2⟩ : ∃ n, hs.length = n := ⟨_, rfl⟩
  have HN := Lib.hid hn2
  rw [hn2] at HV hlen hn
  rw [hn2]
  have hc0 : Ch nob w ((w.alloc (.map #[] 0)).alloc (.map #[] 0)) := ((Ch.refl _ _).alloc _).alloc _
  have hms : Hid (IMap Try.prog 3 ((w.alloc (.map #[] 0)).alloc (.map #[] 0)) w.heap.size 0 (sawF St.zero.seen)) := Lib.hid ((IMap.made Try.prog 3 w).keep ((Ch.refl _ _).alloc _))
  have hml : Hid (IMap Try.prog 3 ((w.alloc (.map #[] 0)).alloc (.map #[] 0)) (w.heap.size + 1) 0 (lastIF St.zero.last)) := Lib.hid (by
    have := IMap.made Try.prog 3 (w.alloc (.map #[] 0))
    rw [show lastIF St.zero.last = fun _ => none from rfl]
    simpa using this)
  have hz0 : w.heap.size + 2 ≤ ((w.alloc (.map #[] 0)).alloc (.map #[] 0)).heap.size := by simp
  clear hv hk hn2
  go_enter Try.func45, Try.ntmps45
  go_wp2_with fail
  go_loopw [17] (fun x wr => ∃ (i c1 c2 : Nat) (S : St), x = .int .i64 i ∧ i ≤ n ∧ c1 ≤ 2 * i ∧ c2 ≤ i ∧ Hid (stF hs i = some S) ∧ Hid (IMap Try.prog 3 wr w.heap.size c1 (sawF S.seen)) ∧ Hid (IMap Try.prog 3 wr (w.heap.size + 1) c2 (lastIF S.last)) ∧ w.heap.size + 2 ≤ wr.heap.size ∧ Ch nob w wr) (fun x _ => n - (intOf x).toNat)
  case atStart => exact ⟨0, 0, 0, St.zero, rfl, Nat.zero_le _, by omega, by omega, Lib.hid rfl, hms, hml, hz0, hc0⟩
  case round =>
    clear hms hml hc0 hmm hz0
    obtain ⟨i, c1, c2, S, rfl, hi, hi1, hi2, hS, hms, hml, hz, hc⟩ := hrel
    by_cases hlt : i < n
    · have hd : decide ((i : Int) < (n : Int)) = true := decide_eq_true (by omega)
      obtain ⟨ad, u, rfl, hx0, hx1, hx2, hx3, hu⟩ := HV.out.both hc i (by rw [HN.out]; exact hlt)
      obtain ⟨_, hw0, hw1, hw2⟩ := HK.out i (by rw [HN.out]; exact hlt)
      have HI := Lib.hid (show i < hs.length from by rw [HN.out]; exact hlt)
      obtain ⟨T, hT⟩ : ∃ T, hs.getD i txrZero = T := ⟨_, rfl⟩
      rw [hT] at hx0 hx1 hx2 hw0 hw1 hw2
      have HX := Lib.hid hT
      obtain ⟨ts, tb, tc, xs⟩ := T
      dsimp only at hx0 hx1 hx2 hw0 hw1 hw2
      obtain ⟨A2, c3, rfl⟩ := hu.shape
      obtain ⟨l, hl⟩ : ∃ l, (hs.getD i txrZero).ops.length = l := ⟨_, rfl⟩
      rw [hl] at hx3
      have hcA : Ch nob wr (wr.alloc (.cells #[.int .i64 ts, .int .i64 tb, .int .i64 tc, .slice A2 l c3] 33)) := (Ch.refl _ _).alloc _
      have hms2 := Lib.hid (hms.out.keep hcA)
      have hml2 := Lib.hid (hml.out.keep hcA)
      have hc2 := hc.seq hcA
      have HB := Lib.hid (Blk.new wr #[.int .i64 ts, .int .i64 tb, .int .i64 tc, .slice A2 l c3] 33)
      clear hT hu hl hms hml hc hcA
      have hWF := Lib.hid (And.intro hw0 (And.intro hw1 hw2))
      clear hw0 hw1 hw2
      go_wp2_with fail
      obtain ⟨wo, hwo⟩ : ∃ wo, wr.alloc (.cells #[.int .i64 ts, .int .i64 tb, .int .i64 tc, .slice A2 l c3] 33) = wo := ⟨_, rfl⟩
      obtain ⟨gt, hgt⟩ : ∃ gt, wr.heap.size = gt := ⟨_, rfl⟩
      have hzo : gt + 1 ≤ wo.heap.size := by rw [← hwo, ← hgt]; simp
      rw [hwo, hgt] at HB
      rw [hwo] at hms2 hml2 hc2 ⊢
      rw [hgt] at hz ⊢
      clear hwo hgt hx0 hx1 hx2 hx3
      go_loopw [26] (fun x wr => ∃ k c1 : Nat, x = .int .i64 k ∧ k ≤ 2 ∧ c1 ≤ 2 * i + k ∧ Hid (1 ≤ k → S.seen tb = false) ∧ Hid (2 ≤ k → addB S.seen tb tc = false) ∧ Hid (IMap Try.prog 3 wr w.heap.size c1 (sawF (sawTo S.seen tb tc k))) ∧ Hid (IMap Try.prog 3 wr (w.heap.size + 1) c2 (lastIF S.last)) ∧ Hid (Blk wr gt #[.int .i64 ts, .int .i64 tb, .int .i64 tc, .slice A2 l c3] 33) ∧ gt + 1 ≤ wr.heap.size ∧ Ch nob w wr) (fun x _ => 2 - (intOf x).toNat)
      case atStart => exact ⟨0, c1, rfl, by omega, by omega, Lib.hid (fun h => by omega), Lib.hid (fun h => by omega), hms2, hml2, HB, hzo, hc2⟩
      case round =>
        clear hms2 hml2 HB hzo hc2
        obtain ⟨k, c4, rfl, hk, hk1, hne1, hne2, hms, hml, hb, hzo, hc⟩ := hrel
        by_cases hlt2 : k < 2
        · have hd2 : decide ((k : Int) < 2) = true := decide_eq_true (by omega)
          have hidx := stamp_index tb tc k hlt2
          have hwf : (Lit.int .i64 (stampAt tb tc k)).wf = true := by unfold stampAt; split <;> first | exact hWF.out.2.1 | exact hWF.out.2.2
          have HS2 := Lib.hid (show sawTo S.seen tb tc (k + 1) = addB (sawTo S.seen tb tc k) (stampAt tb tc k) from rfl)
          have hcase : (k = 0 ∧ sawTo S.seen tb tc k = S.seen ∧ stampAt tb tc k = tb) ∨ (k = 1 ∧ sawTo S.seen tb tc k = addB S.seen tb ∧ stampAt tb tc k = tc) := by
            obtain rfl | rfl : k = 0 ∨ k = 1 := by omega
            · exact .inl ⟨rfl, rfl, rfl⟩
            · exact .inr ⟨rfl, rfl, rfl⟩
          have HCS := Lib.hid hcase
          clear hcase
          obtain ⟨s, hs2⟩ : ∃ s, stampAt tb tc k = s := ⟨_, rfl⟩
          obtain ⟨F, hF⟩ : ∃ F, sawTo S.seen tb tc k = F := ⟨_, rfl⟩
          rw [hs2] at hidx hwf HS2 HCS
          rw [hF] at hms HS2 HCS
          clear hs2 hF
          cases hsn : F s with
          | true =>
            have hlk := sawF_yes hsn
            have HF := Lib.hid (show (stF hs hs.length).isSome = false from stF_no hS.out HX.out HI.out (by
              rcases HCS.out with ⟨_, h1, h2⟩ | ⟨_, h1, h2⟩
              · rw [h1, h2] at hsn
                show (S.seen tb || _ || _) = true
                rw [hsn]; rfl
              · rw [h1, h2] at hsn
                show (S.seen tb || addB S.seen tb tc || _) = true
                rw [hsn]; simp))
            clear hsn
            go_wp2_with (first | (at_lookup; refine wpList_imap_look _ rfl _ _ 103 rfl 3 105 under_int under_mis _ (zero_s _) _ _ _ rfl hms.out _ rfl hwf ?_; rw [hlk]; simp only [Option.getD_none, Option.getD_some, Option.isSome_none, Option.isSome_some]) | fail)
            go_ret
            exact ⟨ret_bool (by rw [← HN.out]; exact HF.out.symm), hc.alloc _⟩
          | false =>
            have hlk := sawF_no hsn
            have hcW : Ch nob wr (wr.alloc (.cells #[] 105)) := (Ch.refl _ _).alloc _
            have hm4 := hms.out.keep hcW
            have hml4 := Lib.hid (hml.out.keep hcW)
            have hb4 := Lib.hid (hb.out.ch hcW (fun h => h))
            have hc4 := hc.seq hcW
            have hne3 : Hid (1 ≤ k + 1 → S.seen tb = false) := Lib.hid (fun _ => by
              rcases HCS.out with ⟨_, h1, h2⟩ | ⟨h0, h1, h2⟩
              · rw [h1, h2] at hsn; exact hsn
              · exact hne1.out (by omega))
            have hne4 : Hid (2 ≤ k + 1 → addB S.seen tb tc = false) := Lib.hid (fun h => by
              rcases HCS.out with ⟨h0, h1, h2⟩ | ⟨h0, h1, h2⟩
              · omega
              · rw [h1, h2] at hsn; exact hsn)
            clear hsn hml hb hc hne1 hne2
            go_wp2_with (first
              | (at_lookup; refine wpList_imap_look _ rfl _ _ 103 rfl 3 105 under_int under_mis _ (zero_s _) _ _ _ rfl hms.out _ rfl hwf ?_; rw [hlk]; simp only [Option.getD_none, Option.getD_some, Option.isSome_none, Option.isSome_some])
              | (at_mapUpdate; refine wpList_imap_put _ rfl _ _ _ 103 rfl 3 105 under_int under_mis _ _ _ rfl hm4 (by unfold maxLen; omega) _ rfl hwf (.agg #[]) rfl ?_; intro w1 hm2 hc3))
            rw [sawF_put] at hm2
            have hw1 := hc3.size
            simp at hw1
            exact ⟨⟨k + 1, (if (sawF F s).isSome then c4 else c4 + 1), by go_num, by omega, (by split <;> omega), hne3, hne4, Lib.hid (by rw [HS2.out]; exact hm2), Lib.hid (hml4.out.ch hc3 (fun h => by have h' : w.heap.size + 1 = w.heap.size := h; omega)), Lib.hid (hb4.out.ch hc3 (fun h => by have h' : gt = w.heap.size := h; omega)), by omega, hc4.fresh hc3 (Nat.le_refl _)⟩, by simp [intOf]; omega⟩
        · have hd2 : decide ((k : Int) < 2) = false := decide_eq_false (by omega)
          obtain rfl : k = 2 := by omega
          have hp0 := hb.out.cell (i := 0) (v := .int .i64 ts) rfl
          have hp1 := hb.out.cell (i := 1) (v := .int .i64 tb) rfl
          have hp2 := hb.out.cell (i := 2) (v := .int .i64 tc) rfl
          have hwf := hWF.out.1
          have hml1 := hml.out
          have HPUT := Lib.hid (lastIF_put S.last ts tc)
          have H1 := Lib.hid (hne1.out (by omega))
          have H2 := Lib.hid (hne2.out (by omega))
          have hyes : overB (S.last ts) tb = false → Hid (stF hs (i + 1) = some ⟨addB (addB S.seen tb) tc, putI S.last ts tc⟩) := fun h => Lib.hid (stF_yes hS.out HX.out (by
            show (S.seen tb || addB S.seen tb tc || overB (S.last ts) tb) = false
            rw [H1.out, H2.out, h]; rfl))
          have HYES := Lib.hid hyes
          have hno : overB (S.last ts) tb = true → Hid ((stF hs hs.length).isSome = false) := fun h => Lib.hid (stF_no hS.out HX.out HI.out (by
            show (S.seen tb || addB S.seen tb tc || overB (S.last ts) tb) = true
            rw [h]; simp))
          have HNO := Lib.hid hno
          clear hyes hno
          cases hL : S.last ts with
          | none =>
            have hlk : lastIF S.last ts = none := by unfold lastIF; rw [hL]; rfl
            have HY := HYES.out (by rw [hL]; rfl)
            clear hL
            go_wp2_with (first | (at_lookup; refine wpList_imap_look _ rfl _ _ 39 rfl 3 3 under_int under_mii _ (zero_i _) _ _ _ rfl hml1 _ rfl hwf ?_; rw [hlk]; simp only [Option.getD_none, Option.getD_some, Option.isSome_none, Option.isSome_some]) | (at_mapUpdate; refine wpList_imap_put _ rfl _ _ _ 39 rfl 3 3 under_int under_mii _ _ _ rfl hml1 (by unfold maxLen; omega) _ rfl hwf (.int .i64 tc) rfl ?_; intro w1 hm2 hc3))
            rw [HPUT.out] at hm2
            have hw1 := hc3.size
            have hms9 := Lib.hid (hms.out.ch hc3 (fun h => by have h' : w.heap.size = w.heap.size + 1 := h; omega))
            have hc9 := hc.fresh hc3 (by omega)
            have hm9 := Lib.hid hm2
            have hcc2 : (if (lastIF S.last ts).isSome then c2 else c2 + 1) ≤ i + 1 := by split <;> omega
            obtain ⟨c9, hc9e⟩ : ∃ c9, (if (lastIF S.last ts).isSome then c2 else c2 + 1) = c9 := ⟨_, rfl⟩
            rw [hc9e] at hm9 hcc2
            clear hm2 hc3 hms hml hml1 hc hb hp0 hp1 hp2 hc9e hlk
            go_roundw
            case rel => exact ⟨i + 1, c4, c9, _, by go_num, by omega, by omega, hcc2, HY, hms9, hm9, by omega, hc9⟩
            case measure => simp [intOf]; omega
          | some e =>
            have hlk : lastIF S.last ts = some (.int .i64 e) := by unfold lastIF; rw [hL]; rfl
            by_cases hov : tb < e
            · have hdo : decide (tb < e) = true := decide_eq_true hov
              have HY := HNO.out (by rw [hL]; exact hdo)
              clear hL
              go_wp2_with (first | (at_lookup; refine wpList_imap_look _ rfl _ _ 39 rfl 3 3 under_int under_mii _ (zero_i _) _ _ _ rfl hml1 _ rfl hwf ?_; rw [hlk]; simp only [Option.getD_none, Option.getD_some, Option.isSome_none, Option.isSome_some]) | (at_mapUpdate; refine wpList_imap_put _ rfl _ _ _ 39 rfl 3 3 under_int under_mii _ _ _ rfl hml1 (by unfold maxLen; omega) _ rfl hwf (.int .i64 tc) rfl ?_; intro w1 hm2 hc3))
              go_ret
              exact ⟨ret_bool (by rw [← HN.out]; exact HY.out.symm), hc⟩
            · have hdo : decide (tb < e) = false := decide_eq_false hov
              have HY := HYES.out (by rw [hL]; exact hdo)
              clear hL
              go_wp2_with (first | (at_lookup; refine wpList_imap_look _ rfl _ _ 39 rfl 3 3 under_int under_mii _ (zero_i _) _ _ _ rfl hml1 _ rfl hwf ?_; rw [hlk]; simp only [Option.getD_none, Option.getD_some, Option.isSome_none, Option.isSome_some]) | (at_mapUpdate; refine wpList_imap_put _ rfl _ _ _ 39 rfl 3 3 under_int under_mii _ _ _ rfl hml1 (by unfold maxLen; omega) _ rfl hwf (.int .i64 tc) rfl ?_; intro w1 hm2 hc3))
              rw [HPUT.out] at hm2
              have hw1 := hc3.size
              have hms9 := Lib.hid (hms.out.ch hc3 (fun h => by have h' : w.heap.size = w.heap.size + 1 := h; omega))
              have hc9 := hc.fresh hc3 (by omega)
              have hm9 := Lib.hid hm2
              have hcc2 : (if (lastIF S.last ts).isSome then c2 else c2 + 1) ≤ i + 1 := by split <;> omega
              obtain ⟨c9, hc9e⟩ : ∃ c9, (if (lastIF S.last ts).isSome then c2 else c2 + 1) = c9 := ⟨_, rfl⟩
              rw [hc9e] at hm9 hcc2
              clear hm2 hc3 hms hml hml1 hc hb hp0 hp1 hp2 hc9e hlk
              go_roundw
              case rel => exact ⟨i + 1, c4, c9, _, by go_num, by omega, by omega, hcc2, HY, hms9, hm9, by omega, hc9⟩
              case measure => simp [intOf]; omega
    · have hd : decide ((i : Int) < (n : Int)) = false := decide_eq_false (by omega)
      obtain rfl : i = n := by omega
      go_wp2_with fail
      go_ret
      exact ⟨ret_bool (by rw [hS.out]; rfl), hc⟩
end Go.Proofs.Ytobfanodjdkkoaa
