/- Relations of numbers below 64: what the program's functions come to. No condition but each theorem's own. -/
import Derived.Test.YtbpmcjndlbkkiaaDoorSet
set_option linter.unusedVariables false
set_option linter.unusedSimpArgs false
namespace Go.Proofs.YtbpmcjndlbkkiaaDoor
open Go.RowKit

/-- A relation's cells. -/
def relArr (r : Nat → Nat) : Array Value := arrOf 64 fun i => .int .u64 (r i)
def RelOK (r : Nat → Nat) : Prop := ∀ i, r i < 18446744073709551616
theorem relArr_ext {r s : Nat → Nat} (h : ∀ k, k < 64 → r k = s k) : relArr r = relArr s := arrOf_ext fun k hk => by rw [h k hk]
theorem zero_rel (w : World) : (zeroValue 27).run Tryd.prog w = .ok (.agg (relArr fun _ => 0)) w := by kernel_rfl
attribute [local go_sem ↓] zero_rel
theorem relArr_size (r : Nat → Nat) : (relArr r).size = 64 := arrOf_size _ _
theorem relArr_cells (r : Nat → Nat) : (relArr r).all (·.oneCell') = true := arrOf_cells _ _ fun _ _ => rfl
theorem Blk.relAt {w : World} {g : Nat} {r : Nat → Nat} {T : TypeId} (h : Blk w g (relArr r) T) (i : Nat) (hi : i < 64) : w.cell? ⟨g, i, none⟩ = some (.int .u64 (r i)) := h.cellOf i hi
/-- One row of a relation set anew. -/
def rowSet (r : Nat → Nat) (i s : Nat) : Nat → Nat := fun k => if k = i then s else r k
theorem rowSet_ok {r : Nat → Nat} (h : RelOK r) (i s : Nat) (hs : s < 18446744073709551616) : RelOK (rowSet r i s) := fun k => by
  unfold rowSet
  split
  · exact hs
  · exact h k
theorem Blk.relSet {w : World} {g : Nat} {r : Nat → Nat} {T : TypeId} (h : Blk w g (relArr r) T) (i s : Nat) : Blk (w.setCell ⟨g, i, none⟩ (.int .u64 s)) g (relArr (rowSet r i s)) T := by
  have := h.setOf i (.int .u64 s)
  refine this.congr fun k _ => ?_
  unfold rowSet
  split <;> rfl

def hasR (r : Nat → Nat) (a b : Int) : Bool := inS a && hasS (r a.toNat) b
theorem has_rel (r : Nat → Nat) (ok : RelOK r) (a b : Int) (w : World) : Calls Tryd.prog 29 #[.agg (relArr r), .int .i64 a, .int .i64 b] w fun e w' => e = .returned (.bool (hasR r a b)) ∧ Ch nob w w' := by
  obtain ⟨hb, hc, hs⟩ := one_new w (relArr r) 27
  by_cases h0 : 0 ≤ a
  · by_cases h1 : a < 64
    · obtain ⟨n, rfl⟩ := Int.eq_ofNat_of_zero_le h0
      have hx := hb.relAt n (by omega)
      have hlt := ok n
      have HE := Lib.hid (show hasR r (n : Int) b = hasS (r n) b from by unfold hasR inS; rw [decide_eq_true (by omega)]; rfl)
      clear ok
      go_enter Tryd.func29, Tryd.ntmps29
      go_wp2_with fail
      generalize w.alloc _ = w1 at hb hc hs hx ⊢
      refine (has_set (r n) b _ hlt).mono ?_
      rintro e w2 ⟨rfl, rfl⟩
      go_wp2_with fail
      go_ret
      exact ⟨ret_bool HE.out.symm, hc⟩
    · have HE := Lib.hid (show hasR r a b = false from by unfold hasR inS; rw [decide_eq_false (by omega)]; rfl)
      go_enter Tryd.func29, Tryd.ntmps29
      go_wp2_with fail
      go_ret
      exact ⟨ret_bool HE.out.symm, hc⟩
  · have HE := Lib.hid (show hasR r a b = false from by unfold hasR inS; rw [decide_eq_false (by omega)]; rfl)
    go_enter Tryd.func29, Tryd.ntmps29
    go_wp2_with fail
    go_ret
    exact ⟨ret_bool HE.out.symm, hc⟩

def unionR (r t : Nat → Nat) (n : Nat) : Nat → Nat := fun i => if i < n then r i ||| t i else r i
theorem or_ok {a b : Nat} (ha : a < 18446744073709551616) (hb : b < 18446744073709551616) : a ||| b < 18446744073709551616 := Nat.or_lt_two_pow (n := 64) ha hb
theorem unionR_zero (r t : Nat → Nat) : unionR r t 0 = r := rfl
theorem unionR_succ (r t : Nat → Nat) (n : Nat) : rowSet (unionR r t n) n (r n ||| t n) = unionR r t (n + 1) := by
  funext k
  unfold rowSet unionR
  by_cases h : k = n
  · subst h; simp
  · rw [if_neg h]
    by_cases h2 : k < n
    · rw [if_pos h2, if_pos (by omega)]
    · rw [if_neg h2, if_neg (by omega)]
theorem union_rel (r t : Nat → Nat) (okr : RelOK r) (okt : RelOK t) (w : World) : Calls Tryd.prog 23 #[.agg (relArr r), .agg (relArr t)] w fun e w' => e = .returned (.agg (relArr (unionR r t 64))) ∧ Ch nob w w' := by
  go_enter Tryd.func23, Tryd.ntmps23
  go_wp2_with fail
  obtain ⟨hr0, ht0, hc0, hs0⟩ := two_new w (relArr r) (relArr t) 27 27
  obtain ⟨hz0, hcz, hsz⟩ := one_new ((w.alloc (.cells (relArr r) 27)).alloc (.cells (relArr t) 27)) (relArr fun _ => 0) 27
  have hr1 := hr0.ch hcz (fun h => h)
  have ht1 := ht0.ch hcz (fun h => h)
  have hc1 := hc0.seq hcz
  rw [hs0] at hz0
  have hz0 : Blk _ (w.heap.size + 1 + 1) _ _ := hz0
  generalize ((w.alloc _).alloc _).alloc _ = w1 at hr1 ht1 hz0 hc1 ⊢
  clear hr0 ht0 hc0 hs0 hcz hsz
  go_loopw [6] (fun q wr => ∃ n : Nat, q = .int .i64 n ∧ n ≤ 64 ∧ Blk wr w.heap.size (relArr (unionR r t n)) 27 ∧ Blk wr (w.heap.size + 1) (relArr t) 27 ∧ Blk wr (w.heap.size + 1 + 1) (relArr fun _ => 0) 27 ∧ Ch nob w wr) (fun q _ => 64 - (intOf q).toNat)
  case atStart => exact ⟨0, rfl, by omega, hr1, ht1, hz0, hc1⟩
  case round =>
    clear hr1 ht1 hz0 hc1
    obtain ⟨n, rfl, hn, hr, ht, hz, hc⟩ := hrel
    by_cases hlt : n < 64
    · have hx := hr.relAt n hlt
      have hy := ht.relAt n hlt
      have hf := hr.free n
      rw [show unionR r t n n = r n from by unfold unionR; rw [if_neg (by omega)]] at hx
      have hor := Bits.or_u64 (r n) (t n) (okr n) (okt n)
      have hr2 := hr.relSet n (r n ||| t n)
      rw [unionR_succ] at hr2
      have hch : Ch (· = w.heap.size) wr (wr.setCell ⟨w.heap.size, n, none⟩ (.int .u64 (r n ||| t n : Nat))) := (Ch.refl _ _).setCell _ _ (fun _ => rfl)
      have ht2 := ht.ch hch (by omega)
      have hz2 := hz.ch hch (by omega)
      have hc2 := hc.setCell ⟨w.heap.size, n, none⟩ (.int .u64 (r n ||| t n : Nat)) (fun h => by simp at h)
      clear hr ht hz hc hch
      go_wp2_with fail
      go_region_with fail
      all_goals
        go_wp2_with fail
        go_roundw
        case rel => exact ⟨n + 1, by go_num, by omega, hr2, ht2, hz2, hc2.drew⟩
        case measure => simp [intOf]; omega
    · obtain rfl : n = 64 := by omega
      have hsz : (relArr (unionR r t 64)).size = 64 := relArr_size _
      have hce := relArr_cells (unionR r t 64)
      obtain ⟨C, hC⟩ : ∃ C, relArr (unionR r t 64) = C := ⟨_, rfl⟩
      have HC := Lib.hid hC
      rw [hC] at hsz hce hr
      obtain ⟨Z, hZ⟩ : ∃ Z, (relArr fun _ => 0) = Z := ⟨_, rfl⟩
      have hzz : Z.size = 64 := by rw [← hZ]; exact relArr_size _
      rw [hZ] at hz
      clear hC hZ
      go_wp2_with (first | (refine wpList_load_row rfl 27 (.tmp 2) rfl w.heap.size rfl 27 C (0, 0) _ hr rfl rfl (by rw [hsz]; kernel_rfl) ?_) | (refine wpList_store_row rfl 27 (.tmp 4) (.tmp 18) rfl (w.heap.size + 1 + 1) C rfl rfl 27 _ hz (by rw [hsz]; kernel_rfl) (by rw [hzz, hsz]) hce ?_))
      have hz3 := hz.row C
      have hc3 := hc.setRow (w.heap.size + 1 + 1) C (fun h => by omega)
      exact bodyPost_ret (v := .agg C) (results_cell_row rfl _ _ (w.heap.size + 1 + 1) 27 C (0, 0) _ rfl hz3 rfl rfl (by rw [hsz]; kernel_rfl)) rfl ⟨by rw [HC.out], hc3⟩

/-- Warshall's steps. -/
def innerC (r : Nat → Nat) (k : Nat) : Nat → (Nat → Nat)
  | 0 => r
  | i + 1 => if hasS (innerC r k i i) (k : Int) then rowSet (innerC r k i) i (innerC r k i i ||| innerC r k i k) else innerC r k i
def closeR (r : Nat → Nat) : Nat → (Nat → Nat)
  | 0 => r
  | k + 1 => innerC (closeR r k) k 64
theorem innerC_ok {r : Nat → Nat} (h : RelOK r) (k : Nat) : ∀ i, RelOK (innerC r k i)
  | 0 => h
  | i + 1 => by
    unfold innerC
    split
    · exact rowSet_ok (innerC_ok h k i) _ _ (or_ok (innerC_ok h k i _) (innerC_ok h k i _))
    · exact innerC_ok h k i
theorem closeR_ok {r : Nat → Nat} (h : RelOK r) : ∀ k, RelOK (closeR r k)
  | 0 => h
  | k + 1 => innerC_ok (closeR_ok h k) k 64
theorem closure_rel (r : Nat → Nat) (ok : RelOK r) (w : World) : Calls Tryd.prog 22 #[.agg (relArr r)] w fun e w' => e = .returned (.agg (relArr (closeR r 64))) ∧ Ch nob w w' := by
  go_enter Tryd.func22, Tryd.ntmps22
  go_wp2_with fail
  obtain ⟨hr1, hz1, hc1, hs1⟩ := two_new w (relArr r) (relArr fun _ => 0) 27 27
  generalize (w.alloc _).alloc _ = w1 at hr1 hz1 hc1 ⊢
  clear hs1
  go_loopw [5] (fun q wr => ∃ k : Nat, q = .int .i64 k ∧ k ≤ 64 ∧ Blk wr w.heap.size (relArr (closeR r k)) 27 ∧ Blk wr (w.heap.size + 1) (relArr fun _ => 0) 27 ∧ Ch nob w wr) (fun q _ => 64 - (intOf q).toNat)
  case atStart => exact ⟨0, rfl, by omega, hr1, hz1, hc1⟩
  case round =>
    clear hr1 hz1 hc1
    obtain ⟨k, rfl, hk, hr, hz, hc⟩ := hrel
    by_cases hlt : k < 64
    · have hd : decide ((k : Int) < 64) = true := decide_eq_true (by omega)
      have okk := closeR_ok ok k
      have HN := Lib.hid (show closeR r (k + 1) = innerC (closeR r k) k 64 from rfl)
      obtain ⟨c, hce⟩ : ∃ c, closeR r k = c := ⟨_, rfl⟩
      rw [hce] at hr okk HN
      clear hce
      go_wp2_with fail
      go_loopw [8] (fun q wr => ∃ i : Nat, q = .int .i64 i ∧ i ≤ 64 ∧ Blk wr w.heap.size (relArr (innerC c k i)) 27 ∧ Blk wr (w.heap.size + 1) (relArr fun _ => 0) 27 ∧ Ch nob w wr) (fun q _ => 64 - (intOf q).toNat)
      case atStart => exact ⟨0, rfl, by omega, hr, hz, hc⟩
      case round =>
        clear hr hz hc
        obtain ⟨i, rfl, hi, hr, hz, hc⟩ := hrel
        by_cases hlti : i < 64
        · have hd2 : decide ((i : Int) < 64) = true := decide_eq_true (by omega)
          have oki := innerC_ok okk k i
          have HS := Lib.hid (show innerC c k (i + 1) = if hasS (innerC c k i i) (k : Int) then rowSet (innerC c k i) i (innerC c k i i ||| innerC c k i k) else innerC c k i from rfl)
          obtain ⟨s, hse⟩ : ∃ s, innerC c k i = s := ⟨_, rfl⟩
          rw [hse] at hr oki HS
          clear hse
          have hx := hr.relAt i hlti
          have hy := hr.relAt k hlt
          have hf := hr.free i
          have oi := oki i
          have oj := oki k
          have hor := Bits.or_u64 (s i) (s k) oi oj
          go_wp2_with fail
          refine (has_set (s i) (k : Int) _ oi).mono ?_
          rintro e w2 ⟨rfl, rfl⟩
          cases hh : hasS (s i) (k : Int)
          · have hr2 : Blk wr w.heap.size (relArr (innerC c k (i + 1))) 27 := by rw [HS.out, hh]; exact hr
            clear hr hh
            go_wp2_with fail
            go_roundw
            case rel => exact ⟨i + 1, by go_num, by omega, hr2, hz, hc⟩
            case measure => simp [intOf]; omega
          · have hr2 := hr.relSet i (s i ||| s k)
            have HE := Lib.hid (show innerC c k (i + 1) = rowSet s i (s i ||| s k) from by rw [HS.out, hh]; rfl)
            rw [← HE.out] at hr2
            have hch : Ch (· = w.heap.size) wr (wr.setCell ⟨w.heap.size, i, none⟩ (.int .u64 (s i ||| s k : Nat))) := (Ch.refl _ _).setCell _ _ (fun _ => rfl)
            have hz2 := hz.ch hch (by omega)
            have hc2 := hc.setCell ⟨w.heap.size, i, none⟩ (.int .u64 (s i ||| s k : Nat)) (fun h => by simp at h)
            clear hr hz hc hch hh
            go_wp2_with fail
            go_region_with fail
            all_goals
              go_wp2_with fail
              go_roundw
              case rel => exact ⟨i + 1, by go_num, by omega, hr2, hz2, hc2.drew⟩
              case measure => simp [intOf]; omega
        · obtain rfl : i = 64 := by omega
          rw [← HN.out] at hr
          go_wp2_with fail
          go_roundw
          case rel => exact ⟨k + 1, by go_num, by omega, hr, hz, hc⟩
          case measure => simp [intOf]; omega
    · obtain rfl : k = 64 := by omega
      have hsz : (relArr (closeR r 64)).size = 64 := relArr_size _
      have hce := relArr_cells (closeR r 64)
      obtain ⟨C, hC⟩ : ∃ C, relArr (closeR r 64) = C := ⟨_, rfl⟩
      have HC := Lib.hid hC
      rw [hC] at hsz hce hr
      obtain ⟨Z, hZ⟩ : ∃ Z, (relArr fun _ => 0) = Z := ⟨_, rfl⟩
      have hzz : Z.size = 64 := by rw [← hZ]; exact relArr_size _
      rw [hZ] at hz
      clear hC hZ
      go_wp2_with (first | (refine wpList_load_row rfl 27 (.tmp 1) rfl w.heap.size rfl 27 C (0, 0) _ hr rfl rfl (by rw [hsz]; kernel_rfl) ?_) | (refine wpList_store_row rfl 27 (.tmp 2) (.tmp 26) rfl (w.heap.size + 1) C rfl rfl 27 _ hz (by rw [hsz]; kernel_rfl) (by rw [hzz, hsz]) hce ?_))
      have hz3 := hz.row C
      have hc3 := hc.setRow (w.heap.size + 1) C (fun h => by omega)
      exact bodyPost_ret (v := .agg C) (results_cell_row rfl _ _ (w.heap.size + 1) 27 C (0, 0) _ rfl hz3 rfl rfl (by rw [hsz]; kernel_rfl)) rfl ⟨by rw [HC.out], hc3⟩

/-- Does one never come back? -/
def acyR (r : Nat → Nat) : Bool := (List.range 64).all fun i => !hasS (closeR r 64 i) (i : Int)
theorem index_rel (r : Nat → Nat) (i : Nat) (hi : i < 64) (w : World) : (Instr.index 27 (.agg (relArr r)) (.int .i64 i)).run Tryd.prog w = .ok (.int .u64 (r i)) w :=
  run_index_one (e := 25) (len := 64) (by kernel_rfl) w (by kernel_rfl) (by kernel_rfl) _ _ _ _ (by omega) (by omega) (arrOf_get _ _ _ hi)
theorem acyclic_rel (r : Nat → Nat) (ok : RelOK r) (w : World) : Calls Tryd.prog 21 #[.agg (relArr r)] w fun e w' => e = .returned (.bool (acyR r)) ∧ Ch nob w w' := by
  obtain ⟨hr1, hc1, hs1⟩ := one_new w (relArr r) 27
  go_enter Tryd.func21, Tryd.ntmps21
  go_wp2_with (refine wpList_load_row rfl 27 (.tmp 1) rfl w.heap.size rfl 27 (relArr r) (0, 0) _ hr1 rfl rfl (by rw [relArr_size]; kernel_rfl) ?_)
  generalize w.alloc _ = w1 at hr1 hc1 ⊢
  refine (closure_rel r ok _).mono ?_
  rintro e w2 ⟨rfl, hc2⟩
  have hc3 := hc1.seq hc2
  have okc := closeR_ok ok 64
  have HA := Lib.hid (show acyR r = (List.range 64).all fun i => !hasS (closeR r 64 i) (i : Int) from rfl)
  generalize closeR r 64 = c at okc HA
  clear hr1 hc1 hc2 hs1
  go_wp2_with fail
  go_loop [7] (fun q => ∃ i : Nat, q = .int .i64 i ∧ i ≤ 64 ∧ Hid (∀ j, j < i → hasS (c j) (j : Int) = false)) (fun q => 64 - (intOf q).toNat)
  case atStart => exact ⟨0, rfl, by omega, Lib.hid (fun j hj => by omega)⟩
  case round =>
    obtain ⟨i, rfl, hi, hn⟩ := hrel
    by_cases hlt : i < 64
    · have hix := index_rel c i hlt
      have oi := okc i
      go_wp2_with fail
      refine (has_set (c i) (i : Int) _ oi).mono ?_
      rintro e w3 ⟨rfl, rfl⟩
      cases hh : hasS (c i) (i : Int)
      · have hn2 : Hid (∀ j, j < i + 1 → hasS (c j) (j : Int) = false) := Lib.hid (fun j hj => by
          by_cases h : j = i
          · rw [h]; exact hh
          · exact hn.out j (by omega))
        clear hh
        go_wp2_with fail
        go_round
        case rel => exact ⟨i + 1, by go_num, by omega, hn2⟩
        case measure => simp [intOf]; omega
      · have HF := Lib.hid (show acyR r = false from by
          rw [HA.out, List.all_eq_false]
          exact ⟨i, by simpa using hlt, by simp [hh]⟩)
        clear hh
        go_wp2_with fail
        go_ret
        exact ⟨ret_bool HF.out.symm, hc3⟩
    · have HF := Lib.hid (show acyR r = true from by
        rw [HA.out, List.all_eq_true]
        intro j hj
        rw [List.mem_range] at hj
        rw [hn.out j (by omega)]; rfl)
      go_wp2_with fail
      go_ret
      exact ⟨ret_bool HF.out.symm, hc3⟩
end Go.Proofs.YtbpmcjndlbkkiaaDoor
