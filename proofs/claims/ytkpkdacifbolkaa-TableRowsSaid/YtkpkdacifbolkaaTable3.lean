/- Rows of levels: out of bits, closed, the strongest. No condition but each theorem's own. -/
import Derived.Test.YtkpkdacifbolkaaTableLaws2
import Derived.Test.YtkpkdacifbolkaaRef10c
set_option linter.unusedVariables false
set_option linter.unusedSimpArgs false
namespace Go.Proofs.Ytkpkdacifbolkaa
open Go.RowKit
attribute [local go_sem ↓] zero_all zero_row

theorem u16_and1 (m : Int) (h0 : 0 ≤ m) (h1 : m < 65536) : bits .and .u16 m 1 = m % 2 :=
  bits_mask .u16 16 (by decide) (fun n h0 h1 => by simp only [IntKind.wrap, IntKind.bits, IntKind.signed]; simp; omega) 1 (by decide) m h0 h1
theorem results_row_tmp {P : Program} {fn : Func} {p u : Tmp} {ty : TypeId} (h : fn.results = #[.cell p ty, .tmp u]) (tmps : Array Value) (w : World) (g : Nat) (t : TypeId) (cs : Array Value) (fr : Nat × Nat) (d : TypeDesc)
    (hp : tmps.getD p undef = .pointer (some ⟨g, 0, none⟩)) (hg : w.heap[g]? = some (.cells cs t fr))
    (hu : P.underlying ty = some d) (hd : (match d with | .struct _ | .array _ _ => true | _ => false) = true) (hi : (P.info? ty).map (·.size) = some cs.size) :
    (results fn tmps).run P w = .ok (.tuple #[.agg cs, tmps.getD u undef]) w := by
  have hp' : tmps[p]?.getD undef = .pointer (some ⟨g, 0, none⟩) := by simpa using hp
  simp [results, h, hp', asAddr, run_loadVar_row w g t ty cs fr d hg hu hd hi]
def bitAt (n : Int) (i : Nat) : Bool := decide (n / 2 ^ i % 2 = 1)
/-- The levels of some bits, rising. -/
def levelsOf (n : Int) : List Int := ((List.range 12).filter (bitAt n)).map fun i : Nat => (i : Int)
def levelsTo (n : Int) (k : Nat) : List Int := ((List.range k).filter (bitAt n)).map fun i : Nat => (i : Int)
theorem levelsTo_succ (n : Int) (k : Nat) : levelsTo n (k + 1) = levelsTo n k ++ if bitAt n k then [(k : Int)] else [] := by
  unfold levelsTo
  rw [List.range_succ, List.filter_append, List.map_append]
  cases h : bitAt n k <;> simp [h]
theorem bit_ways (n : Int) (k : Nat) (h0 : 0 ≤ n) (h1 : n ≤ 65535) : (bits .and .u16 (n / 2 ^ k) 1 == 1) = bitAt n k := by
  have hp : (0 : Int) < 2 ^ k := Int.pow_pos (by decide)
  have h2 : 0 ≤ n / 2 ^ k := Int.ediv_nonneg h0 (by omega)
  have h3 : n / 2 ^ k ≤ n := Int.ediv_le_self _ h0
  rw [u16_and1 _ h2 (by omega)]
  rfl
theorem bit_step (n : Int) (k : Nat) (b : Bool) (hb : bitAt n k = b) (j : Nat) : (decide (j < k + 1) && bitAt n j) = if j = k then b else (decide (j < k) && bitAt n j) := by
  by_cases h : j = k
  · rw [if_pos h, h, hb, decide_eq_true (by omega)]; rfl
  · rw [if_neg h, show decide (j < k + 1) = decide (j < k) from decide_eq_decide.2 (by omega)]
theorem levelsTo_le (n : Int) (k : Nat) : (levelsTo n k).length ≤ k := by
  unfold levelsTo
  rw [List.length_map]
  have := List.length_filter_le (bitAt n) (List.range k)
  simpa using this
/-- What 'of' hands back: a row, and the list. -/
def RetOf (n : Int) (w : World) (e : Ending) (w' : World) : Prop := ∃ v, e = .returned (.tuple #[.agg (rowArr (bitAt n)), v]) ∧ Own w' w.heap.size 3 v (levelsOf n) ∧ Ch nob w w'

theorem of_law10 (n : Int) (w : World) (h0 : 0 ≤ n) (h1 : n ≤ 65535) : Calls Try.prog 35 #[.int .u16 n] w (RetOf n w) := by
  go_enter Try.func35, Try.ntmps35
  go_wp2_with fail
  obtain ⟨hb1, hb0, hc0, _⟩ := two_new w (arrOf 12 fun _ => .bool false) (arrOf 12 fun _ => .bool false) 44 44
  generalize (w.alloc _).alloc _ = w2 at hb1 hb0 hc0 ⊢
  go_loopw [5, 7] (fun o q wr => ∃ k : Nat, q = .int .i64 k ∧ k ≤ 12 ∧ Own wr w.heap.size 3 o (levelsTo n k) ∧ Blk wr (w.heap.size + 1) (arrOf 12 fun j => .bool (decide (j < k) && bitAt n j)) 44 ∧ Blk wr w.heap.size (arrOf 12 fun x => .bool false) 44 ∧ Ch nob w wr) (fun _ q _ => 12 - (intOf q).toNat)
  case atStart => exact ⟨0, rfl, by omega, OwnK.nil _ _ _ _, hb0, hb1, hc0⟩
  case round =>
    clear hb0 hb1 hc0
    obtain ⟨k, rfl, hk, ho, hb0, hb1, hc⟩ := hrel
    by_cases hlt : k < 12
    · have hf := hb0.free k
      have hx := hb0.cellOf k hlt
      have hw := bit_ways n k h0 h1
      have hle := levelsTo_le n k
      have HLS := Lib.hid (levelsTo_succ n k)
      cases hb : bitAt n k
      · have hb2 := hb0.congr (f' := fun j => .bool (decide (j < k + 1) && bitAt n j)) (fun j _ => by
          rw [bit_step n k false hb j]
          by_cases h : j = k
          · rw [if_pos h, h, hb]; simp
          · rw [if_neg h])
        have ho2 : Own wr w.heap.size 3 u5 (levelsTo n (k + 1)) := by rw [HLS.out, hb]; simpa using ho
        rw [hb] at hw
        clear hb hx hf hb0 ho
        go_wp2_with fail
        go_roundw
        case rel => exact ⟨k + 1, by go_num, by omega, ho2, hb2, hb1, hc⟩
        case measure => simp [intOf]; omega
      · have hb2 := (hb0.setOf k (.bool true)).congr (f' := fun j => .bool (decide (j < k + 1) && bitAt n j)) (fun j _ => by
          rw [bit_step n k true hb j]
          by_cases h : j = k
          · rw [if_pos h, if_pos h]
          · rw [if_neg h, if_neg h])
        have hch : Ch (· = w.heap.size + 1) wr (wr.setCell ⟨w.heap.size + 1, k, none⟩ (.bool true)) := (Ch.refl _ _).setCell _ _ (fun _ => rfl)
        have hb3 : Blk (wr.setCell ⟨w.heap.size + 1, k, none⟩ (.bool true)) w.heap.size (arrOf 12 fun x => .bool false) 44 := hb1.ch hch (by omega)
        have ho2 := ho.other hch (ho.ne hb0 (by decide))
        have hc2 := hc.setCell ⟨w.heap.size + 1, k, none⟩ (.bool true) (fun h => by simp at h; omega)
        have hsz : (wr.setCell ⟨w.heap.size + 1, k, none⟩ (.bool true)).heap.size = wr.heap.size := by simp [World.setCell]
        have hnb := Blk.new (wr.setCell ⟨w.heap.size + 1, k, none⟩ (.bool true)) #[.int .i64 (k : Int)] 3
        rw [hsz] at hnb
        have ho3 := Lib.hid (ho2.alloc (.cells #[.int .i64 (k : Int)] 3))
        have hc3 := Lib.hid (hc2.alloc (.cells #[.int .i64 (k : Int)] 3))
        have hb4 := Lib.hid (hb2.alloc (.cells #[.int .i64 (k : Int)] 3))
        have hb5 := Lib.hid (hb3.alloc (.cells #[.int .i64 (k : Int)] 3))
        have HNB := Lib.hid hnb
        have HB := Lib.hid hb
        have hge := hc3.out.size
        rw [hb] at hw
        clear ho hc hb0 hb1 hb2 hb3 ho2 hc2 hnb hch hsz hb
        go_wp2_with (at_builtin; refine wpList_append_int rfl (.tmp 17) (.tmp 19) 48 3 rfl .i64 8 elem_int (by decide) w.heap.size u5 _ rfl ho3.out wr.heap.size (k : Int) 3 rfl HNB.out (by omega) (by omega) ?_; intro v' w' hown hg; have hc4 := hc3.out.grown_own hg (fun b hb => (ho3.out.ge b hb).1); have hown2 : Own w' w.heap.size 3 v' (levelsTo n (k + 1)) := (by rw [HLS.out, HB.out]; exact hown); have hb6 := hb4.out.grown hg (ho3.out.ne hb4.out (by decide)); have hb7 := hb5.out.grown hg (ho3.out.ne hb5.out (by decide)); clear hown hg)
        go_roundw
        case rel => exact ⟨k + 1, by go_num, by omega, hown2, hb6, hb7, hc4⟩
        case measure => simp [intOf]; omega
    · obtain rfl : k = 12 := by omega
      have hb2 : Blk wr (w.heap.size + 1) (rowArr (bitAt n)) 44 := hb0.congr (fun j hj => by rw [decide_eq_true (by omega)]; rfl)
      clear hb0
      go_wp2_with (first | (refine wpList_load_row rfl 44 (.tmp 4) rfl (w.heap.size + 1) rfl 44 (rowArr (bitAt n)) (0, 0) _ hb2 rfl rfl (by rw [rowArr, arrOf_size]; kernel_rfl) ?_) | (refine wpList_store_row rfl 44 (.tmp 2) (.tmp 22) rfl w.heap.size (rowArr (bitAt n)) rfl rfl 44 _ hb1 (by rw [rowArr, arrOf_size]; kernel_rfl) (by rw [arrOf_size, rowArr, arrOf_size]) (arrOf_cells _ _ fun _ _ => rfl) ?_))
      have hb3 := hb1.row (rowArr (bitAt n))
      have hch : Ch (· = w.heap.size) wr (wr.setRow w.heap.size (rowArr (bitAt n))) := (Ch.refl _ _).setRow _ _ (fun _ => rfl)
      have hc1 := hc.setRow w.heap.size (rowArr (bitAt n)) (fun h => by omega)
      refine bodyPost_ret (v := .tuple #[.agg (rowArr (bitAt n)), u5]) ?_ rfl ⟨u5, rfl, ho.other hch (ho.ne hb1 (by decide)), hc1⟩
      exact results_row_tmp (P := Try.prog) (p := 2) (u := 3) (ty := 44) rfl _ _ w.heap.size 44 (rowArr (bitAt n)) (0, 0) _ rfl hb3 rfl rfl (by rw [rowArr, arrOf_size]; kernel_rfl)

def rowC (r : Nat → Bool) (a b : Nat) : Bool := !(r a && impl a b && !r b)
def closedTo (r : Nat → Bool) (n : Nat) : Bool := (List.range n).all fun a => (List.range 12).all (rowC r a)
def closedIn (r : Nat → Bool) (a n : Nat) : Bool := (List.range n).all (rowC r a)
def closedF (r : Nat → Bool) : Bool := closedTo r 12
theorem closedTo_succ (r : Nat → Bool) (a : Nat) : closedTo r (a + 1) = (closedTo r a && closedIn r a 12) := rangeAll_succ _ _
theorem closedIn_succ (r : Nat → Bool) (a b : Nat) : closedIn r a (b + 1) = (closedIn r a b && rowC r a b) := rangeAll_succ _ _
theorem closedF_false (r : Nat → Bool) (a b : Nat) (ha : a < 12) (hb : b < 12) (h : rowC r a b = false) : closedF r = false :=
  rangeAll_false (fun a => (List.range 12).all (rowC r a)) 12 a ha (rangeAll_false (rowC r a) 12 b hb h)

theorem closed_row (r : Nat → Bool) (w : World) : Calls Try.prog 37 #[.agg (rowArr r)] w fun e w' => e = .returned (.bool (closedF r)) ∧ Ch nob w w' := by
  go_enter Try.func37, Try.ntmps37
  go_wp2_with fail
  obtain ⟨hb0, hc0, _⟩ := one_new w (rowArr r) 44
  generalize w.alloc _ = w1 at hb0 hc0 ⊢
  refine (all_table _).mono ?_
  rintro e w2 ⟨rfl, hc1⟩
  have hb1 := hb0.ch hc1 (fun h => h)
  have hc2 := hc0.seq hc1
  clear hb0 hc0 hc1
  go_wp2_with fail
  go_loopw [8] (fun q wr => ∃ a : Nat, q = .int .i64 a ∧ a ≤ 12 ∧ Blk wr w.heap.size (rowArr r) 44 ∧ Ch nob w wr ∧ Hid (closedTo r a = true)) (fun q _ => 12 - (intOf q).toNat)
  case atStart => exact ⟨0, rfl, by omega, hb1, hc2, Lib.hid rfl⟩
  case round =>
    clear hb1 hc2
    obtain ⟨a, rfl, ha, hb, hc, hn⟩ := hrel
    by_cases hlt : a < 12
    · have hd : decide ((a : Int) < 12) = true := decide_eq_true (by omega)
      have hix := index_all a hlt
      obtain ⟨hz, hcz, hsz⟩ := one_new wr (arrOf 12 fun _ => .bool false) 44
      have hb1 := hb.ch hcz (fun h => h)
      have hlt1 := hb.lt
      have hch : Ch (· = wr.heap.size) (wr.alloc (.cells (arrOf 12 fun _ => .bool false) 44)) ((wr.alloc (.cells (arrOf 12 fun _ => .bool false) 44)).setRow wr.heap.size (rowArr fun k => impl a k)) := (Ch.refl _ _).setRow _ _ (fun _ => rfl)
      have hb2 := hb1.ch hch (by omega)
      have hz2 := hz.row (rowArr fun k => impl a k)
      have hc3 := (hc.seq hcz).setRow wr.heap.size (rowArr fun k => impl a k) (fun h => by have := hc.size; omega)
      have HT := Lib.hid (closedTo_succ r a)
      clear hb hc hb1 hcz hsz hch
      go_wp2_with (first | (refine wpList_store_row rfl 44 (.tmp 4) (.tmp 11) rfl wr.heap.size (rowArr fun k => impl a k) rfl rfl 44 _ hz (by rw [rowArr, arrOf_size]; kernel_rfl) (by rw [arrOf_size, rowArr, arrOf_size]) (arrOf_cells _ _ fun _ _ => rfl) ?_) | (refine wpList_load_row rfl 44 (.tmp 4) rfl wr.heap.size rfl 44 (rowArr fun k => impl a k) (0, 0) _ hz2 rfl rfl (by rw [rowArr, arrOf_size]; kernel_rfl) ?_))
      generalize (wr.alloc _).setRow _ _ = w3 at hb2 hz2 hc3 ⊢
      clear hz
      go_loopw [13] (fun q wr => ∃ b : Nat, q = .int .i64 b ∧ b ≤ 12 ∧ wr = w3 ∧ Hid (closedIn r a b = true)) (fun q _ => 12 - (intOf q).toNat)
      case atStart => exact ⟨0, rfl, by omega, rfl, Lib.hid rfl⟩
      case round =>
        obtain ⟨b, rfl, hbb, rfl, hm⟩ := hrel
        by_cases hlt2 : b < 12
        · have hix2 := index_row (fun k => impl a k) b hlt2
          have hxa := hb2.cellOf a hlt
          have hxb := hb2.cellOf b hlt2
          have HI := Lib.hid (closedIn_succ r a b)
          have HF := Lib.hid (closedF_false r a b hlt hlt2)
          cases h1 : r a
          · rw [h1] at hxa
            have hm2 : Hid (closedIn r a (b + 1) = true) := by show _ = _; rw [HI.out, hm.out]; simp [rowC, h1]
            clear h1
            go_wp2_with fail
            go_roundw
            case rel => exact ⟨b + 1, by go_num, by omega, trivial, hm2⟩
            case measure => simp [intOf]; omega
          · rw [h1] at hxa
            cases h2 : impl a b
            · have hm2 : Hid (closedIn r a (b + 1) = true) := by show _ = _; rw [HI.out, hm.out]; simp [rowC, h2]
              rw [h2] at hix2
              clear h1 h2
              go_wp2_with fail
              go_roundw
              case rel => exact ⟨b + 1, by go_num, by omega, trivial, hm2⟩
              case measure => simp [intOf]; omega
            · rw [h2] at hix2
              cases h3 : r b
              · rw [h3] at hxb
                have hfin := Lib.hid (HF.out (by simp [rowC, h1, h2, h3]))
                clear h1 h2 h3
                go_wp2_with fail
                go_ret
                exact ⟨ret_bool hfin.out.symm, hc3⟩
              · rw [h3] at hxb
                have hm2 : Hid (closedIn r a (b + 1) = true) := by show _ = _; rw [HI.out, hm.out]; simp [rowC, h3]
                clear h1 h2 h3
                go_wp2_with fail
                go_roundw
                case rel => exact ⟨b + 1, by go_num, by omega, trivial, hm2⟩
                case measure => simp [intOf]; omega
        · obtain rfl : b = 12 := by omega
          have hn2 : Hid (closedTo r (a + 1) = true) := by show _ = _; rw [HT.out, hn.out, hm.out]; rfl
          go_wp2_with fail
          go_roundw
          case rel => exact ⟨a + 1, by go_num, by omega, hb2, hc3, hn2⟩
          case measure => simp [intOf]; omega
    · obtain rfl : a = 12 := by omega
      go_wp2_with fail
      go_ret
      exact ⟨ret_bool hn.out.symm, hc⟩
end Go.Proofs.Ytkpkdacifbolkaa
