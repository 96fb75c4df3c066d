/- The laws of package burgagelaw09 answer true, whatever their arguments. No condition. -/
import Derived.Test.YtkpkdacifbolkaaNames
set_option linter.unusedVariables false
set_option linter.unusedSimpArgs false
namespace Go.Proofs.Ytkpkdacifbolkaa
open Go.RowKit

theorem speaks09 (w : World) : Calls Try.prog 23 #[] w fun e w' => e = .returned (.bool true) ∧ Ch nob w w' := by
  have h1 : ofIdx ⟨#[115, 116, 114, 105, 99, 116]⟩ = some 11 := by decide +kernel
  have h2 : (cl (six (asksI 11)) : Int) = 63 := by decide +kernel
  have h3 : nameI 2 = ⟨#[99, 97, 117, 115, 97, 108]⟩ := by decide +kernel
  have h4 : isL 12 = false := by decide +kernel
  have H1 := Lib.hid h1
  have H2 := Lib.hid h2
  have H3 := Lib.hid h3
  clear h1 h2 h3
  go_enter Try.func23, Try.ntmps23
  go_wp2_with fail
  refine (of_level _ _).mono ?_
  rintro e w1 ⟨rfl, hc⟩
  rw [H1.out]
  go_wp2_with fail
  refine (asks_any _ _).mono ?_
  rintro e w2 ⟨rfl, hc2⟩
  replace hc := hc.seq hc2
  clear hc2
  go_wp2_with fail
  refine (closed_level _ _).mono ?_
  rintro e w3 ⟨rfl, rfl⟩
  rw [H2.out]
  go_wp2_with fail
  refine (name_level _ _).mono ?_
  rintro e w4 ⟨rfl, hc2⟩
  replace hc := hc.seq hc2
  clear hc2
  rw [H3.out]
  go_wp2_with fail
  refine (is_level _ _).mono ?_
  rintro e w5 ⟨rfl, rfl⟩
  go_wp2_with fail
  go_ret
  exact ⟨rfl, hc⟩

theorem law_closes (a : Int) (ha : -9223372036854775808 ≤ a ∧ a ≤ 9223372036854775807) (b : Int) (hb : -9223372036854775808 ≤ b ∧ b ≤ 9223372036854775807) (w : World) :
    Calls Try.prog 8 #[.int .i64 a, .int .i64 b] w fun e w' => e = .returned (.bool true) ∧ Below w.heap.size w w' := by
  have h63 : bits .and .i64 a 63 = (six a : Nat) := by
    have := and_small a 63 (by decide)
    rw [show six a &&& 63 = six a from by have := six_lt a; exact (Nat.and_two_pow_sub_one_of_lt_two_pow (n := 6) this)] at this
    exact this
  have hor := six_or a b
  have hcl := cl_lt (six a)
  have hs := six_nat (cl (six a)) hcl
  have hid := cl_idem (six a) (six_lt a)
  have ha2 : bits .and .i64 (cl (six a) : Nat) a = (six a : Nat) := by
    have h1 : bits .and .i64 ((cl (six a) : Nat) : Int) a = bits .and .i64 a ((cl (six a) : Nat) : Int) := by
      rw [bits_toInt_and, bits_toInt_and, Nat.and_comm]
    rw [h1, and_small a _ hcl, Nat.and_comm, cl_holds _ (six_lt a)]
  have hmo : bits .and .i64 (cl (six a ||| six b) : Nat) (cl (six a) : Nat) = (cl (six a) : Nat) := by
    rw [and_small _ _ hcl, six_nat _ (cl_lt _), cl_more _ _ (six_lt a) (six_lt b)]
  have H63 := Lib.hid h63
  have HOR := Lib.hid hor
  have HS := Lib.hid hs
  have HID := Lib.hid hid
  have HA := Lib.hid ha2
  have HM := Lib.hid hmo
  clear h63 hor hs hid ha2 hmo
  have h6 := six_lt a
  go_enter Try.func8, Try.ntmps8
  go_wp2_with fail
  refine (speaks09 _).mono ?_
  rintro e w1 ⟨rfl, hc⟩
  go_wp2_with fail
  refine (closed_level _ _).mono ?_
  rintro e w2 ⟨rfl, rfl⟩
  go_wp2_with fail
  refine (closed_level _ _).mono ?_
  rintro e w2 ⟨rfl, rfl⟩
  rw [HOR.out]
  go_wp2_with fail
  rw [H63.out]
  refine (closed_ref _ _ h6).mono ?_
  rintro e w2 ⟨rfl, rfl⟩
  go_wp2_with fail
  refine (closed_level _ _).mono ?_
  rintro e w2 ⟨rfl, rfl⟩
  rw [HS.out, HID.out]
  have hbq : (bits .and .i64 (cl (six a) : Nat) a == bits .and .i64 a 63) = true := by rw [HA.out, H63.out]; simp
  go_wp2_with fail
  go_ret
  exact ⟨ret_bool (by rw [HM.out]; simp), hc.below⟩

/-- The last one of the first k levels of that name. -/
def lastIdx (s : ByteArray) : Nat → Option Nat
  | 0 => none
  | k + 1 => if ((nameB k).toList == s.toList) = true then some k else lastIdx s k
theorem lastIdx_none (s : ByteArray) (k : Nat) : lastIdx s k = none → ∀ j, j < k → ((nameB j).toList == s.toList) = false := by
  induction k with
  | zero => intro _ j hj; omega
  | succ k ih =>
    intro h j hj
    unfold lastIdx at h
    by_cases hk : ((nameB k).toList == s.toList) = true
    · rw [if_pos hk] at h; cases h
    · rw [if_neg hk] at h
      by_cases e : j = k
      · rw [e]; exact Bool.eq_false_iff.2 hk
      · exact ih h j (by omega)
theorem lastIdx_some (s : ByteArray) (k m : Nat) : lastIdx s k = some m → m < k ∧ ((nameB m).toList == s.toList) = true := by
  induction k with
  | zero => intro h; cases h
  | succ k ih =>
    intro h
    unfold lastIdx at h
    by_cases hk : ((nameB k).toList == s.toList) = true
    · rw [if_pos hk] at h
      cases h
      exact ⟨by omega, hk⟩
    · rw [if_neg hk] at h
      have := ih h
      exact ⟨by omega, this.2⟩
theorem names_apart (i j : Nat) (hi : i < 12) (hj : j < 12) : (nameB i).toList = (nameB j).toList → i = j := by
  have : ∀ i j : Fin 12, (nameB i.val).toList = (nameB j.val).toList → i.val = j.val := by decide +kernel
  exact this ⟨i, hi⟩ ⟨j, hj⟩
theorem last_of (s : ByteArray) : lastIdx s 12 = ofIdx s := by
  cases h : lastIdx s 12 with
  | none => exact (ofIdx_none s (lastIdx_none s 12 h)).symm
  | some m =>
    have hm := lastIdx_some s 12 m h
    refine (ofIdx_some s m hm.1 hm.2 fun j hj => ?_).symm
    cases hh : (nameB j).toList == s.toList with
    | false => rfl
    | true =>
      have := names_apart j m (by omega) hm.1 ((beq_iff_eq.1 hh).trans (beq_iff_eq.1 hm.2).symm)
      omega

theorem law_names (l : Int) (hl : -9223372036854775808 ≤ l ∧ l ≤ 9223372036854775807) (s : ByteArray) (hs : s.size ≤ 140737488351232) (w : World) :
    Calls Try.prog 7 #[.int .i64 l, .string s] w fun e w' => e = .returned (.bool true) ∧ Below w.heap.size w w' := by
  have hlast := Lib.hid (last_of s)
  go_enter Try.func7, Try.ntmps7
  go_wp2_with fail
  refine (speaks09 _).mono ?_
  rintro e w1 ⟨rfl, hc⟩
  go_wp2_with fail
  refine (of_level _ _).mono ?_
  rintro e w2 ⟨rfl, hc2⟩
  replace hc := hc.seq hc2
  clear hc2
  go_wp2_with fail
  go_loop [7, 8, 17] (fun n f q => ∃ k : Nat, q = .int .i64 k ∧ k ≤ 12 ∧ n = .int .i64 ((lastIdx s k).getD 0 : Nat) ∧ f = .bool (lastIdx s k).isSome) (fun _ _ q => 12 - (intOf q).toNat)
  case atStart => exact ⟨0, rfl, by omega, rfl, rfl⟩
  case round =>
    obtain ⟨k, rfl, hk, rfl, rfl⟩ := hrel
    by_cases hlt : k < 12
    · have hnk := Lib.hid (show nameI (k : Int) = nameB k from by unfold nameI; rw [if_pos (by omega)]; rfl)
      go_wp2_with fail
      refine (name_ref _ _).mono ?_
      rintro e w3 ⟨rfl, rfl⟩
      rw [hnk.out]
      cases he : (nameB k).toList == s.toList
      · have hn2 := Lib.hid (show lastIdx s (k + 1) = lastIdx s k from by rw [lastIdx, if_neg (by rw [he]; decide)])
        go_wp2_with fail
        go_round
        case rel => exact ⟨k + 1, by go_num, by omega, by rw [hn2.out], by rw [hn2.out]⟩
        case measure => simp [intOf]; omega
      · have hn2 := Lib.hid (show lastIdx s (k + 1) = some k from by rw [lastIdx, if_pos he])
        go_wp2_with fail
        go_round
        case rel => exact ⟨k + 1, by go_num, by omega, by rw [hn2.out]; rfl, by rw [hn2.out]; rfl⟩
        case measure => simp [intOf]; omega
    · obtain rfl : k = 12 := by omega
      rw [hlast.out]
      have hne : ((ofIdx s).isSome != (ofIdx s).isSome) = false := by simp
      have hne2 : ((((ofIdx s).getD 0 : Nat) : Int) != ((ofIdx s).getD 0 : Nat)) = false := by simp
      go_wp2_with fail
      refine (name_level _ _).mono ?_
      rintro e w3 ⟨rfl, hc2⟩
      replace hc := hc.seq hc2
      clear hc2
      go_wp2_with fail
      refine (name_ref _ _).mono ?_
      rintro e w4 ⟨rfl, rfl⟩
      go_wp2_with fail
      refine (asks_any _ _).mono ?_
      rintro e w4 ⟨rfl, hc2⟩
      replace hc := hc.seq hc2
      clear hc2
      go_wp2_with fail
      refine (asks_ref _ _).mono ?_
      rintro e w5 ⟨rfl, rfl⟩
      go_wp2_with fail
      refine (is_level _ _).mono ?_
      rintro e w5 ⟨rfl, rfl⟩
      go_wp2_with fail
      all_goals
        go_ret
        exact ⟨ret_bool (by simp [isL]; omega), hc.below⟩
end Go.Proofs.Ytkpkdacifbolkaa
