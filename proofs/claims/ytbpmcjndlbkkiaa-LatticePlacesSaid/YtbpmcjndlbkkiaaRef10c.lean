/- The reference's strongest levels, as a list. No condition but each theorem's own. -/
import Derived.Test.YtbpmcjndlbkkiaaRef10b
set_option linter.unusedVariables false
set_option linter.unusedSimpArgs false
namespace Go.Proofs.Ytbpmcjndlbkkiaa
open Go.RowKit

/-- None of these, unless it is a itself, implies a. -/
def topB (l : List Int) (a : Int) : Bool := l.all fun c => !(c != a && impl c a)
def topTo (l : List Int) (a : Int) (k : Nat) : Bool := (l.take k).all fun c => !(c != a && impl c a)
theorem topTo_succ (l : List Int) (a : Int) (k : Nat) (h : k < l.length) : topTo l a (k + 1) = (topTo l a k && !(l.getD k 0 != a && impl (l.getD k 0) a)) := all_take_succ l _ k h
theorem topTo_all (l : List Int) (a : Int) (k : Nat) (h : l.length ≤ k) : topTo l a k = topB l a := by unfold topTo; rw [List.take_of_length_le h]; rfl
def strongL (l : List Int) : List Int := l.filter (topB l)

set_option maxHeartbeats 2000000 in
theorem strongest_ref (v : Value) (l : List Int) (w : World) (hl : Ints w v l) (hn : l.length ≤ 1000000) : Calls Try.prog 7 #[v] w (RetOwn .i64 w 3 (strongL l)) := by
  obtain ⟨A, c, rfl⟩ := hl.shape
  have HL := Lib.hid hl
  clear hl
  go_enter Try.func7, Try.ntmps7
  go_wp2_with fail
  have ho0 := OwnK.made .i64 w w.heap.size 3 (Nat.le_refl _)
  have hc0 := (Ch.refl nob w).alloc (.cells #[] 3)
  generalize w.alloc _ = w1 at ho0 hc0 ⊢
  go_loopw [3, 4] (fun o q wr => ∃ i : Nat, q = .int .i64 i ∧ i ≤ l.length ∧ Own wr w.heap.size 3 o ((l.take i).filter (topB l)) ∧ Ch nob w wr) (fun _ q _ => l.length - (intOf q).toNat)
  case atStart => exact ⟨0, rfl, by omega, by simpa using ho0, hc0⟩
  case round =>
    clear ho0 hc0
    obtain ⟨i, rfl, hi, ho, hc⟩ := hrel
    by_cases hlt : i < l.length
    · have hd : decide ((i : Int) < (l.length : Int)) = true := decide_eq_true (by omega)
      obtain ⟨_, hlen, hcells⟩ := (HL.out.keep hc).at
      have HC := Lib.hid hcells
      clear hcells
      obtain ⟨ad, rfl, hx⟩ := HC.out i hlt
      have HF := Lib.hid (filter_take_succ l (topB l) i hlt)
      obtain ⟨z, hz⟩ : ∃ z, l.getD i 0 = z := ⟨_, rfl⟩
      rw [hz] at hx HF
      have HZ := Lib.hid hz
      clear hz
      have HO := Lib.hid ho
      have hc' := Lib.hid hc
      clear ho hc
      go_wp2_with fail
      obtain ⟨wo, rfl⟩ : ∃ wo : World, wo = wr := ⟨_, rfl⟩
      go_loopw [5, 6] (fun b q wr => ∃ k : Nat, q = .int .i64 k ∧ k ≤ l.length ∧ b = .bool (topTo l z k) ∧ Dr wo wr) (fun _ q _ => l.length - (intOf q).toNat)
      case atStart => exact ⟨0, rfl, by omega, rfl, Dr.refl _⟩
      case round =>
        obtain ⟨k, rfl, hk, rfl, hw⟩ := hrel
        by_cases hlt2 : k < l.length
        · obtain ⟨bd, hbd, hy⟩ := HC.out k hlt2
          obtain rfl : ad = bd := by simpa using hbd
          have HS := Lib.hid (topTo_succ l z k hlt2)
          replace hx := hw.cell hx
          replace hy := hw.cell hy
          have hkk : (k : Int) < (l.length : Int) := by omega
          have hii : (i : Int) < (l.length : Int) := by omega
          generalize l.getD k 0 = y at hy HS
          by_cases he : y = z
          · have hb1 : (y != z) = false := by simp [he]
            have hn2 := Lib.hid (show topTo l z (k + 1) = topTo l z k from by rw [HS.out, hb1]; simp)
            clear he
            go_wp2_with fail
            go_quiet (fail)
            go_wp2_with fail
            go_roundw
            case rel => exact ⟨k + 1, by go_num, by omega, by rw [hn2.out], hw.step _⟩
            case measure => simp [intOf]; omega
          · have hb1 : (y != z) = true := by simp [he]
            clear he
            cases h2 : impl y z
            · have hn2 := Lib.hid (show topTo l z (k + 1) = topTo l z k from by rw [HS.out, h2]; simp)
              go_wp2_with fail
              go_quiet ((go_at_call 8; exact Calls.quiet_of_same ((implies_ref _ _ _).mono fun _ _ h => ⟨h.1, h.2.symm⟩)))
              go_wp2_with fail
              go_roundw
              case rel => exact ⟨k + 1, by go_num, by omega, by rw [hn2.out], hw.step _⟩
              case measure => simp [intOf]; omega
            · have hn2 := Lib.hid (show topTo l z (k + 1) = false from by rw [HS.out, hb1, h2]; simp)
              go_wp2_with fail
              go_quiet ((go_at_call 8; exact Calls.quiet_of_same ((implies_ref _ _ _).mono fun _ _ h => ⟨h.1, h.2.symm⟩)))
              go_wp2_with fail
              go_roundw
              case rel => exact ⟨k + 1, by go_num, by omega, by rw [hn2.out], hw.step _⟩
              case measure => simp [intOf]; omega
        · have htop := topTo_all l z k (by omega)
          have HT := Lib.hid htop
          clear htop
          replace hx := hw.cell hx
          cases ht : topB l z
          · rw [HT.out, ht]
            have hf2 : Own wr w.heap.size 3 u3 ((l.take (i + 1)).filter (topB l)) := by rw [HF.out, ht]; simpa using HO.out.keep hw.ch
            have hc2 := hc'.out.seq hw.ch
            go_wp2_with fail
            go_roundw
            case rel => exact ⟨i + 1, by go_num, by omega, hf2, hc2⟩
            case measure => simp [intOf]; omega
          · rw [HT.out, ht]
            have hof := (HO.out.keep hw.ch).alloc (.cells #[.int .i64 z] 3)
            have hof2 := Lib.hid hof
            have hc2 := Lib.hid ((hc'.out.seq hw.ch).alloc (.cells #[.int .i64 z] 3))
            have hnb := Lib.hid (Blk.new wr #[.int .i64 z] 3)
            have hle : ((l.take i).filter (topB l)).length ≤ 1000000 := Nat.le_trans (List.length_filter_le _ _) (Nat.le_trans (List.length_take_le _ _) (by omega))
            have hge := hc2.out.size
            clear hof
            go_wp2_with (at_builtin; refine wpList_append_int rfl (.tmp 41) (.tmp 46) 27 3 rfl .i64 8 elem_int (by decide) w.heap.size u3 _ rfl hof2.out wr.heap.size z 3 rfl hnb.out (by omega) (by omega) ?_; intro v' w' hown hg; have hc3 := hc2.out.grown_own hg (fun b hb => (hof2.out.ge b hb).1); have hown2 : Own w' w.heap.size 3 v' ((l.take (i + 1)).filter (topB l)) := by rw [HF.out, ht]; exact hown)
            clear hown hg
            go_roundw
            case rel => exact ⟨i + 1, by go_num, by omega, hown2, hc3⟩
            case measure => simp [intOf]; omega
    · go_wp2_with fail
      go_ret
      refine ⟨_, rfl, ?_, hc⟩
      rw [List.take_of_length_le (by omega)] at ho
      exact ho
end Go.Proofs.Ytbpmcjndlbkkiaa
