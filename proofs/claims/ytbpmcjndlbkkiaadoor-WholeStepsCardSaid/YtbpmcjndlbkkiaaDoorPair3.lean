/- The reference's relations over pairs: one behind the other. No condition but each theorem's own. -/
import Derived.Test.YtbpmcjndlbkkiaaDoorPair2
set_option linter.unusedVariables false
set_option linter.unusedSimpArgs false
namespace Go.Proofs.YtbpmcjndlbkkiaaDoor
open Go.RowKit

/-- One step of 'Then': by the pair p, and the pair q behind it. -/
def thenStep (p : IPair) (out : List IPair) (q : IPair) : List IPair := if p.2 == q.1 then putP out p.1 q.2 else out
def thenIn (p : IPair) (m : List IPair) (out : List IPair) (k : Nat) : List IPair := (m.take k).foldl (thenStep p) out
def thenP (l m : List IPair) (i : Nat) : List IPair := (l.take i).foldl (fun out p => thenIn p m out m.length) []
theorem thenIn_zero (p : IPair) (m out : List IPair) : thenIn p m out 0 = out := rfl
theorem thenIn_succ (p : IPair) (m out : List IPair) (k : Nat) (h : k < m.length) : thenIn p m out (k + 1) = thenStep p (thenIn p m out k) (m.getD k (0, 0)) := by
  unfold thenIn
  rw [List.take_add_one, List.getElem?_eq_getElem h, List.foldl_append, List.getD_eq_getElem?_getD, List.getElem?_eq_getElem h]
  rfl
theorem thenP_succ (l m : List IPair) (i : Nat) (h : i < l.length) : thenP l m (i + 1) = thenIn (l.getD i (0, 0)) m (thenP l m i) m.length := by
  unfold thenP
  rw [List.take_add_one, List.getElem?_eq_getElem h, List.foldl_append, List.getD_eq_getElem?_getD, List.getElem?_eq_getElem h]
  rfl
theorem putP_len (l : List IPair) (a b : Int) : (putP l a b).length ≤ l.length + 1 := by
  unfold putP
  split <;> simp
theorem thenStep_len (p : IPair) (out : List IPair) (q : IPair) : (thenStep p out q).length ≤ out.length + 1 := by
  unfold thenStep
  split
  · exact putP_len _ _ _
  · omega
theorem thenIn_len (p : IPair) (m out : List IPair) (k : Nat) : (thenIn p m out k).length ≤ out.length + k := by
  induction k with
  | zero => simp [thenIn]
  | succ k ih =>
    by_cases h : k < m.length
    · rw [thenIn_succ p m out k h]
      have := thenStep_len p (thenIn p m out k) (m.getD k (0, 0))
      omega
    · have : thenIn p m out (k + 1) = thenIn p m out k := by unfold thenIn; rw [List.take_of_length_le (by omega), List.take_of_length_le (by omega)]
      rw [this]; omega
theorem thenP_len (l m : List IPair) (i : Nat) : (thenP l m i).length ≤ i * m.length := by
  induction i with
  | zero => simp [thenP]
  | succ i ih =>
    by_cases h : i < l.length
    · rw [thenP_succ l m i h]
      have := thenIn_len (l.getD i (0, 0)) m (thenP l m i) m.length
      rw [Nat.succ_mul]; omega
    · have : thenP l m (i + 1) = thenP l m i := by unfold thenP; rw [List.take_of_length_le (by omega), List.take_of_length_le (by omega)]
      rw [this, Nat.succ_mul]; omega

theorem then_ref02 (v u : Value) (l m : List IPair) (w : World) (hl : Pairs w v l) (hm : Pairs w u m) (hn : l.length * m.length ≤ 900000) : Calls Tryd.prog 25 #[v, u] w fun e w' => ∃ x, e = .returned x ∧ Pairs w' x (thenP l m l.length) ∧ Ch nob w w' := by
  obtain ⟨A, ca, rfl⟩ := hl.shape
  obtain ⟨B, cb, rfl⟩ := hm.shape
  obtain ⟨_, hlL, _⟩ := hl.at
  obtain ⟨_, hmL, _⟩ := hm.at
  have HL := Lib.hid hl
  have HM := Lib.hid hm
  clear hl hm
  have ho0 := (OwnP.made w w.heap.size 42 (Nat.le_refl _)).pairs
  have hc0 := (Ch.refl nob w).alloc (.cells #[] 42)
  go_enter Tryd.func25, Tryd.ntmps25
  go_wp2_with fail
  generalize w.alloc _ = w1 at ho0 hc0 ⊢
  go_loopw [5, 6] (fun o q wr => ∃ i : Nat, q = .int .i64 i ∧ i ≤ l.length ∧ Pairs wr o (thenP l m i) ∧ Ch nob w wr) (fun _ q _ => l.length - (intOf q).toNat)
  case atStart => exact ⟨0, rfl, by omega, ho0, hc0⟩
  case round =>
    clear ho0 hc0
    obtain ⟨i, rfl, hi, ho, hc⟩ := hrel
    by_cases hlt : i < l.length
    · have hd : decide ((i : Int) < (l.length : Int)) = true := decide_eq_true (by omega)
      have HN := Lib.hid (thenP_succ l m i hlt)
      have hlen := thenP_len l m i
      have hmul : (i + 1) * m.length ≤ l.length * m.length := Nat.mul_le_mul_right _ (by omega)
      rw [Nat.succ_mul] at hmul
      obtain ⟨out, hout⟩ : ∃ out, thenP l m i = out := ⟨_, rfl⟩
      rw [hout] at ho HN hlen
      clear hout
      have hbound : out.length + m.length ≤ 900000 := by omega
      clear hlen hmul
      obtain ⟨p, hp⟩ : ∃ p, l.getD i (0, 0) = p := ⟨_, rfl⟩
      have HP := Lib.hid hp
      rw [hp] at HN
      clear hp
      go_wp2_with fail
      go_loopw [5, 7] (fun o q wr => ∃ k : Nat, q = .int .i64 k ∧ k ≤ m.length ∧ Pairs wr o (thenIn p m out k) ∧ Ch nob w wr) (fun _ q _ => m.length - (intOf q).toNat)
      case atStart => exact ⟨0, rfl, by omega, ho, hc⟩
      case round =>
        clear ho hc
        obtain ⟨k, rfl, hk, ho, hc⟩ := hrel
        by_cases hltk : k < m.length
        · have hd2 : decide ((k : Int) < (m.length : Int)) = true := decide_eq_true (by omega)
          have hii : (i : Int) < (l.length : Int) := by omega
          have hkk : (k : Int) < (m.length : Int) := by omega
          have HS := Lib.hid (thenIn_succ p m out k hltk)
          have hil := thenIn_len p m out k
          obtain ⟨_, _, hcl⟩ := (HL.out.keep hc).at
          obtain ⟨ad, rfl, hx1, hx2⟩ := hcl i hlt
          rw [HP.out] at hx1 hx2
          obtain ⟨_, _, hcm⟩ := (HM.out.keep hc).at
          obtain ⟨bd, rfl, hy1, hy2⟩ := hcm k hltk
          clear hcl hcm
          obtain ⟨q, hq⟩ : ∃ q, m.getD k (0, 0) = q := ⟨_, rfl⟩
          rw [hq] at hy1 hy2 HS
          clear hq
          cases he : p.2 == q.1
          · have HE := Lib.hid (show thenIn p m out (k + 1) = thenIn p m out k from by rw [HS.out, thenStep, he]; rfl)
            go_wp2_with fail
            go_region_with fail
            all_goals
              go_wp2_with fail
              go_roundw
              case rel => exact ⟨k + 1, by go_num, by omega, by rw [HE.out]; exact ho, hc.drew⟩
              case measure => simp [intOf]; omega
          · have HE := Lib.hid (show thenIn p m out (k + 1) = putP (thenIn p m out k) p.1 q.2 from by rw [HS.out, thenStep, he]; rfl)
            have hbd : (thenIn p m out k).length ≤ 1000000 := by omega
            go_wp2_with fail
            go_quiet (fail)
            go_wp2_with fail
            go_region_with (go_at_call 19; refine (put_ref02 _ (thenIn p m out k) p.1 q.2 _ (by exact ho) hbd).mono ?_; rintro e w5 ⟨u5, rfl, ho5, hc5⟩; rw [← HE.out] at ho5; have hc6 : Ch nob w w5 := Ch.seq (by first | exact hc | exact hc.drewN _ | exact (hc.drewN _).drew) hc5)
            all_goals
              go_wp2_with fail
              go_roundw
              case rel => exact ⟨k + 1, by go_num, by omega, ho5, by first | exact hc6 | exact hc6.drew⟩
              case measure => simp [intOf]; omega
        · obtain rfl : k = m.length := by omega
          rw [← HN.out] at ho
          go_wp2_with fail
          go_roundw
          case rel => exact ⟨i + 1, by go_num, by omega, ho, hc⟩
          case measure => simp [intOf]; omega
    · obtain rfl : i = l.length := by omega
      go_wp2_with fail
      go_ret
      exact ⟨_, rfl, ho, hc⟩
end Go.Proofs.YtbpmcjndlbkkiaaDoor
