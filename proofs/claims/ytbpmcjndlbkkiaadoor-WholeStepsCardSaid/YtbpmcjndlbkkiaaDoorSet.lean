/- The functions of package set come to plain sets. Where the library's table reads as its text lays it, for those that ask for the least number. -/
import Derived.Test.YtbpmcjndlbkkiaaDoorBits
import Derived.Test.YtbpmcjndlbkkiaaDoorSl
set_option linter.unusedVariables false
set_option linter.unusedSimpArgs false
namespace Go.Proofs.YtbpmcjndlbkkiaaDoor
open Go.RowKit

/-- Can a number be in a set? -/
def inS (n : Int) : Bool := decide (0 ≤ n ∧ n < 64)
theorem in_set (n : Int) (w : World) : Calls Tryd.prog 43 #[.int .i64 n] w fun e w' => e = .returned (.bool (inS n)) ∧ w = w' := by
  by_cases h0 : 0 ≤ n
  · by_cases h1 : n < 64
    · have h := Lib.hid (show inS n = true from decide_eq_true ⟨h0, h1⟩)
      go_enter Tryd.func43, Tryd.ntmps43
      go_wp2
      go_ret
      exact ⟨ret_bool h.out.symm, rfl⟩
    · have h := Lib.hid (show inS n = false from decide_eq_false (by omega))
      go_enter Tryd.func43, Tryd.ntmps43
      go_wp2
      go_ret
      exact ⟨ret_bool h.out.symm, rfl⟩
  · have h := Lib.hid (show inS n = false from decide_eq_false (by omega))
    go_enter Tryd.func43, Tryd.ntmps43
    go_wp2
    go_ret
    exact ⟨ret_bool h.out.symm, rfl⟩

theorem wrap_pow (k : Nat) (hk : k < 64) : IntKind.u64.wrap ((2 : Int) ^ k) = ((2 ^ k : Nat) : Int) := by
  have hp : 2 ^ k < 18446744073709551616 := Nat.pow_lt_pow_right (m := k) (n := 64) (by decide) hk
  have e : ((2 : Int) ^ k) = ((2 ^ k : Nat) : Int) := by rw [Int.natCast_pow]; rfl
  rw [e, wrap_u64_nat, Nat.mod_eq_of_lt hp]
def hasS (s : Nat) (n : Int) : Bool := inS n && s.testBit n.toNat
def withS (s : Nat) (n : Int) : Nat := if inS n then Bits.put s n.toNat else s
def withoutS (s : Nat) (n : Int) : Nat := if inS n then Bits.del s n.toNat else s
theorem withS_lt (s : Nat) (n : Int) (hs : s < 18446744073709551616) : withS s n < 18446744073709551616 := by
  unfold withS inS
  split
  · rename_i h
    have := of_decide_eq_true h
    exact Bits.put_lt s n.toNat hs (by omega)
  · exact hs
theorem withoutS_lt (s : Nat) (n : Int) (hs : s < 18446744073709551616) : withoutS s n < 18446744073709551616 := by
  unfold withoutS
  split
  · exact Bits.del_lt s n.toNat hs
  · exact hs

theorem has_set (s : Nat) (n : Int) (w : World) (hs : s < 18446744073709551616) : Calls Tryd.prog 38 #[.int .u64 s, .int .i64 n] w fun e w' => e = .returned (.bool (hasS s n)) ∧ w = w' := by
  cases hi : inS n
  · have h := Lib.hid (show hasS s n = false from by unfold hasS; rw [hi]; rfl)
    go_enter Tryd.func38, Tryd.ntmps38
    go_wp2_with fail
    refine (in_set _ _).mono ?_
    rintro e w1 ⟨rfl, rfl⟩
    go_wp2_with fail
    go_ret
    exact ⟨ret_bool h.out.symm, rfl⟩
  · have hb := of_decide_eq_true hi
    obtain ⟨k, rfl⟩ := Int.eq_ofNat_of_zero_le hb.1
    have hk : k < 64 := by omega
    have h := Lib.hid (show hasS s k = s.testBit k from by unfold hasS; rw [hi]; rfl)
    have he : (bits .and .u64 ((s : Int) / 2 ^ k) 1 == 1) = s.testBit k := by
      rw [show (s : Int) / 2 ^ k = ((s / 2 ^ k : Nat) : Int) from by rw [Int.natCast_ediv]; rfl]
      have hle : s / 2 ^ k ≤ s := Nat.div_le_self _ _
      rw [and_lit64 (s / 2 ^ k) 1 1 (by omega) (by omega) (by decide), Nat.and_one_is_mod]
      rw [Nat.testBit_eq_decide_div_mod_eq]
      rw [Bool.eq_iff_iff, beq_iff_eq, decide_eq_true_iff]
      omega
    have hlt : (k : Int) < 64 := by omega
    clear hb
    go_enter Tryd.func38, Tryd.ntmps38
    go_wp2_with fail
    refine (in_set _ _).mono ?_
    rintro e w1 ⟨rfl, rfl⟩
    go_wp2_with fail
    go_ret
    exact ⟨ret_bool (by rw [h.out]), rfl⟩

theorem with_set (s : Nat) (n : Int) (w : World) (hs : s < 18446744073709551616) : Calls Tryd.prog 40 #[.int .u64 s, .int .i64 n] w fun e w' => e = .returned (.int .u64 (withS s n)) ∧ w = w' := by
  cases hi : inS n
  · have h := Lib.hid (show withS s n = s from by unfold withS; rw [hi]; rfl)
    go_enter Tryd.func40, Tryd.ntmps40
    go_wp2_with fail
    refine (in_set _ _).mono ?_
    rintro e w1 ⟨rfl, rfl⟩
    go_wp2_with fail
    go_ret
    exact ⟨ret_int (by rw [h.out]), rfl⟩
  · have hb := of_decide_eq_true hi
    obtain ⟨k, rfl⟩ := Int.eq_ofNat_of_zero_le hb.1
    have hk : k < 64 := by omega
    have h := Lib.hid (show withS s k = Bits.put s k from by unfold withS; rw [hi]; rfl)
    have hp : 2 ^ k < 18446744073709551616 := Nat.pow_lt_pow_right (m := k) (n := 64) (by decide) hk
    have he : bits .or .u64 (s : Int) (IntKind.u64.wrap (2 ^ k)) = ((Bits.put s k : Nat) : Int) := by
      rw [wrap_pow k hk, Bits.or_u64 s (2 ^ k) hs hp]; rfl
    have HE := Lib.hid he
    clear hb he hp
    have hlt : (k : Int) < 64 := by omega
    go_enter Tryd.func40, Tryd.ntmps40
    go_wp2_with fail
    refine (in_set _ _).mono ?_
    rintro e w1 ⟨rfl, rfl⟩
    go_wp2_with fail
    go_ret
    exact ⟨ret_int (by rw [h.out, HE.out]), rfl⟩

theorem without_set (s : Nat) (n : Int) (w : World) (hs : s < 18446744073709551616) : Calls Tryd.prog 35 #[.int .u64 s, .int .i64 n] w fun e w' => e = .returned (.int .u64 (withoutS s n)) ∧ w = w' := by
  cases hi : inS n
  · have h := Lib.hid (show withoutS s n = s from by unfold withoutS; rw [hi]; rfl)
    go_enter Tryd.func35, Tryd.ntmps35
    go_wp2_with fail
    refine (in_set _ _).mono ?_
    rintro e w1 ⟨rfl, rfl⟩
    go_wp2_with fail
    go_ret
    exact ⟨ret_int (by rw [h.out]), rfl⟩
  · have hb := of_decide_eq_true hi
    obtain ⟨k, rfl⟩ := Int.eq_ofNat_of_zero_le hb.1
    have hk : k < 64 := by omega
    have h := Lib.hid (show withoutS s k = Bits.del s k from by unfold withoutS; rw [hi]; rfl)
    have hp : 2 ^ k < 18446744073709551616 := Nat.pow_lt_pow_right (m := k) (n := 64) (by decide) hk
    have he : bits .andNot .u64 (s : Int) (IntKind.u64.wrap (2 ^ k)) = ((Bits.del s k : Nat) : Int) := by
      rw [wrap_pow k hk, Bits.andNot_u64 s (2 ^ k) hs hp]; rfl
    have HE := Lib.hid he
    clear hb he hp
    have hlt : (k : Int) < 64 := by omega
    go_enter Tryd.func35, Tryd.ntmps35
    go_wp2_with fail
    refine (in_set _ _).mono ?_
    rintro e w1 ⟨rfl, rfl⟩
    go_wp2_with fail
    go_ret
    exact ⟨ret_int (by rw [h.out, HE.out]), rfl⟩

theorem count_set (s : Nat) (w : World) (hs : s < 18446744073709551616) : Calls Tryd.prog 33 #[.int .u64 s] w fun e w' => e = .returned (.int .i64 (Bits.count s)) ∧ w = w' := by
  go_enter Tryd.func33, Tryd.ntmps33
  go_wp2_with fail
  refine (ones_count _ _ hs).mono ?_
  rintro e w1 ⟨rfl, rfl⟩
  go_wp2_with fail
  go_ret
  exact ⟨rfl, rfl⟩
theorem first_set (s : Nat) (w : World) (hs : s < 18446744073709551616) (hT : Tab w) : Calls Tryd.prog 42 #[.int .u64 s] w fun e w' => e = .returned (.int .i64 (Bits.least s)) ∧ w = w' := by
  go_enter Tryd.func42, Tryd.ntmps42
  go_wp2_with fail
  refine (trailing_zeros _ _ hs hT).mono ?_
  rintro e w1 ⟨rfl, rfl⟩
  go_wp2_with fail
  go_ret
  exact ⟨rfl, rfl⟩

def withinS (s t : Nat) : Bool := s ^^^ (s &&& t) == 0
theorem within_set (s t : Nat) (w : World) (hs : s < 18446744073709551616) (ht : t < 18446744073709551616) : Calls Tryd.prog 39 #[.int .u64 s, .int .u64 t] w fun e w' => e = .returned (.bool (withinS s t)) ∧ w = w' := by
  have he : (bits .andNot .u64 (s : Int) (t : Int) == 0) = withinS s t := by
    rw [Bits.andNot_u64 s t hs ht]
    unfold withinS
    rw [Bool.eq_iff_iff, beq_iff_eq, beq_iff_eq]
    omega
  go_enter Tryd.func39, Tryd.ntmps39
  go_wp2_with fail
  go_ret
  exact ⟨rfl, rfl⟩

/-- All numbers below one. -/
def belowS (n : Int) : Nat := if 64 ≤ n then 18446744073709551615 else if n < 1 then 0 else 2 ^ n.toNat - 1
theorem belowS_lt (n : Int) : belowS n < 18446744073709551616 := by
  unfold belowS
  split
  · decide
  · split
    · decide
    · have : 2 ^ n.toNat < 18446744073709551616 := Nat.pow_lt_pow_right (m := n.toNat) (n := 64) (by decide) (by omega)
      omega
theorem below_set (n : Int) (w : World) : Calls Tryd.prog 32 #[.int .i64 n] w fun e w' => e = .returned (.int .u64 (belowS n)) ∧ w = w' := by
  by_cases h1 : 64 ≤ n
  · have h := Lib.hid (show belowS n = 18446744073709551615 from by unfold belowS; rw [if_pos h1])
    go_enter Tryd.func32, Tryd.ntmps32
    go_wp2_with fail
    go_ret
    exact ⟨ret_int (by rw [h.out]; rfl), rfl⟩
  · by_cases h2 : n < 1
    · have h := Lib.hid (show belowS n = 0 from by unfold belowS; rw [if_neg h1, if_pos h2])
      go_enter Tryd.func32, Tryd.ntmps32
      go_wp2_with fail
      go_ret
      exact ⟨ret_int (by rw [h.out]; rfl), rfl⟩
    · obtain ⟨k, rfl⟩ := Int.eq_ofNat_of_zero_le (show 0 ≤ n by omega)
      have hk : k < 64 := by omega
      have hp : 2 ^ k < 18446744073709551616 := Nat.pow_lt_pow_right (m := k) (n := 64) (by decide) hk
      have hp1 : 0 < 2 ^ k := Nat.two_pow_pos k
      have h := Lib.hid (show belowS k = 2 ^ k - 1 from by unfold belowS; rw [if_neg h1, if_neg h2]; rfl)
      have he : IntKind.u64.wrap (IntKind.u64.wrap (2 ^ k) - 1) = ((2 ^ k - 1 : Nat) : Int) := by
        rw [wrap_pow k hk, Bits.wrap_u64 _ (by omega) (by omega)]; omega
      have HE := Lib.hid he
      clear he hp hp1
      go_enter Tryd.func32, Tryd.ntmps32
      go_wp2_with fail
      go_ret
      exact ⟨ret_int (by rw [h.out, HE.out]), rfl⟩

def ofTo (l : List Int) (k : Nat) : Nat := (l.take k).foldl withS 0
def ofS (l : List Int) : Nat := l.foldl withS 0
theorem ofTo_lt (l : List Int) (k : Nat) : ofTo l k < 18446744073709551616 := by
  unfold ofTo
  generalize l.take k = m
  have : ∀ (m : List Int) (s : Nat), s < 18446744073709551616 → m.foldl withS s < 18446744073709551616 := by
    intro m
    induction m with
    | nil => intro s hs; exact hs
    | cons a m ih => intro s hs; exact ih _ (withS_lt s a hs)
  exact this m 0 (by decide)
theorem ofTo_succ (l : List Int) (k : Nat) (h : k < l.length) : ofTo l (k + 1) = withS (ofTo l k) (l.getD k 0) := by
  unfold ofTo
  rw [List.take_add_one, List.foldl_append, List.getElem?_eq_getElem h, List.getD_eq_getElem?_getD, List.getElem?_eq_getElem h]
  rfl
theorem ofTo_all (l : List Int) : ofTo l l.length = ofS l := by unfold ofTo; rw [List.take_length]; rfl
theorem ofS_lt (l : List Int) : ofS l < 18446744073709551616 := ofTo_all l ▸ ofTo_lt l _
theorem of_set (v : Value) (l : List Int) (w : World) (hl : Ints w v l) : Calls Tryd.prog 30 #[v] w fun e w' => e = .returned (.int .u64 (ofS l)) ∧ w = w' := by
  obtain ⟨A, c, rfl⟩ := hl.shape
  obtain ⟨_, hlen, hcells⟩ := hl.at
  have HC := Lib.hid hcells
  have HA := Lib.hid (ofTo_all l)
  clear hl hcells
  go_enter Tryd.func30, Tryd.ntmps30
  go_wp2_with fail
  go_loop [3, 8] (fun x q => ∃ k : Nat, q = .int .i64 k ∧ k ≤ l.length ∧ x = .int .u64 (ofTo l k)) (fun _ q => l.length - (intOf q).toNat)
  case atStart => exact ⟨0, rfl, by omega, rfl⟩
  case round =>
    obtain ⟨k, rfl, hk, rfl⟩ := hrel
    by_cases hlt : k < l.length
    · obtain ⟨ad, rfl, hx⟩ := HC.out k hlt
      have HS := Lib.hid (ofTo_succ l k hlt)
      have hlt2 := ofTo_lt l k
      generalize l.getD k 0 = z at hx HS
      clear HC
      go_wp2_with fail
      refine (with_set _ _ _ hlt2).mono ?_
      rintro e w1 ⟨rfl, rfl⟩
      go_wp2_with fail
      go_round
      case rel => exact ⟨k + 1, by go_num, by omega, by rw [HS.out]⟩
      case measure => simp [intOf]; omega
    · obtain rfl : k = l.length := by omega
      clear HC
      go_wp2_with fail
      go_ret
      exact ⟨ret_int (by rw [HA.out]), rfl⟩

/-- All numbers of a set, as ints. -/
def listS (s : Nat) : List Int := (Bits.list s).map fun i : Nat => (i : Int)
theorem listS_len (s : Nat) : (listS s).length ≤ 64 := by unfold listS; rw [List.length_map]; exact Bits.list_len s
theorem listS_step (s : Nat) (hs : s < 18446744073709551616) (h : s ≠ 0) : listS s = (Bits.least s : Int) :: listS (withoutS s (Bits.least s : Int)) := by
  have h1 := (Bits.least_spec s hs h).1
  unfold listS
  rw [Bits.list_step s hs h, List.map_cons]
  congr 2
  unfold withoutS inS
  rw [if_pos (decide_eq_true (by omega))]
  rfl
theorem list_set (s : Nat) (w : World) (hs : s < 18446744073709551616) (hT : Tab w) : Calls Tryd.prog 34 #[.int .u64 s] w (RetOwn .i64 w 3 (listS s)) := by
  have hcl : Bits.count s ≤ 64 := Bits.list_len s
  go_enter Tryd.func34, Tryd.ntmps34
  go_wp2_with fail
  refine (count_set _ _ hs).mono ?_
  rintro e w1 ⟨rfl, rfl⟩
  go_wp2_with (at_make; refine wpList_make_int rfl _ _ 30 3 rfl .i64 8 elem_int (by decide) w.heap.size (Bits.count s) .i64 .i64 _ rfl rfl rfl (by omega) (Nat.le_refl _) ?_; intro w1 ho0 hc0)
  have hs0 : ([] : List Int) ++ listS s = listS s := rfl
  have HS0 := Lib.hid hs0
  have hlt := hT.lt
  clear hs0 hcl
  go_loopw [0, 3] (fun x o wr => ∃ (t : Nat) (l : List Int), x = .int .u64 t ∧ t < 18446744073709551616 ∧ Hid (l ++ listS t = listS s) ∧ Own wr w.heap.size 3 o l ∧ Ch nob w wr ∧ Tab wr) (fun x _ _ => (listS (intOf x).toNat).length)
  case atStart => exact ⟨s, [], rfl, hs, HS0, ho0, hc0, hT.keep hc0⟩
  case round =>
    clear ho0 hc0 hT
    obtain ⟨t, l, rfl, ht, hl, ho, hc, hT⟩ := hrel
    have hmeas : (listS (intOf (Value.int .u64 (t : Int))).toNat).length = (listS t).length := rfl
    by_cases h0 : t = 0
    · have hb : ((t : Int) != 0) = false := by simp [h0]
      have HL : Hid (l = listS s) := by
        have := hl.out
        rw [h0, show listS 0 = [] from by unfold listS; rw [Bits.list_zero]; rfl, List.append_nil] at this
        exact this
      clear h0 hmeas
      go_wp2_with fail
      go_ret
      exact ⟨_, rfl, by have := HL.out; rw [← this]; exact ho, hc⟩
    · have hb : ((t : Int) != 0) = true := by simp [h0]
      have HT := Lib.hid (listS_step t ht h0)
      have hlen := listS_len t
      have hll : l.length ≤ 64 := by
        have h1 := congrArg List.length hl.out
        rw [List.length_append] at h1
        have := listS_len s
        omega
      have hm2 : (listS (withoutS t (Bits.least t : Int))).length < (listS t).length := by rw [HT.out]; simp
      have hwl := withoutS_lt t (Bits.least t : Int) ht
      have HL2 : Hid ((l ++ [(Bits.least t : Int)]) ++ listS (withoutS t (Bits.least t : Int)) = listS s) := by
        show _ = _
        rw [List.append_assoc, List.singleton_append, ← HT.out]; exact hl.out
      have HM := Lib.hid hmeas
      clear h0 hmeas
      go_wp2_with fail
      refine (first_set _ _ ht hT).mono ?_
      rintro e w2 ⟨rfl, rfl⟩
      generalize Bits.least t = k at hm2 hwl HL2 ⊢
      have hof := Lib.hid (ho.alloc (.cells #[.int .i64 (k : Int)] 3))
      have hc2 := Lib.hid (hc.alloc (.cells #[.int .i64 (k : Int)] 3))
      have hnb := Lib.hid (Blk.new wr #[.int .i64 (k : Int)] 3)
      have hge := hc2.out.size
      have hT2 := Lib.hid (hT.keep ((Ch.refl nob wr).alloc (.cells #[.int .i64 (k : Int)] 3)))
      clear ho hc hT
      go_wp2_with (first | (at_builtin; refine wpList_append_int rfl (.tmp 12) (.tmp 14) 30 3 rfl .i64 8 elem_int (by decide) w.heap.size u3 _ rfl hof.out wr.heap.size (k : Int) 3 rfl hnb.out (by omega) (by omega) ?_; intro v' w' hown hg; have hc4 := hc2.out.grown_own hg (fun b hb => (hof.out.ge b hb).1); have hT3 := hT2.out.ch (Ch.toGrown hg) (fun e => by have := (hof.out.ge _ e).1; omega)) | (go_at_call 35; refine (without_set _ _ _ ht).mono ?_; rintro e w5 ⟨rfl, rfl⟩))
      go_roundw
      case rel => exact ⟨_, _, rfl, hwl, HL2, hown, hc4, hT3⟩
      case measure => simp [intOf]; omega
end Go.Proofs.YtbpmcjndlbkkiaaDoor
