/- What the laws of package burgagelaw02 call of their own. No condition but each theorem's own. -/
import Derived.Test.YtbpmcjndlbkkiaaDoorRelChain
import Derived.Test.YtbpmcjndlbkkiaaDoorPair4
import Derived.Test.YtbpmcjndlbkkiaaDoorRef01
set_option linter.unusedVariables false
set_option linter.unusedSimpArgs false
namespace Go.Proofs.YtbpmcjndlbkkiaaDoor
open Go.RowKit
attribute [local go_sem ↓] zero_rel

/-- Pairs added to a relation, and put into a row, as far as they may be. -/
def ofRel (l : List IPair) (k : Nat) : Nat → Nat := (l.take k).foldl (fun r p => addR r p.1 p.2) (fun _ => 0)
def ofPairs (l : List IPair) (k : Nat) : List IPair := (l.take k).foldl (fun o p => if rightP p.1 p.2 then putP o p.1 p.2 else o) []
theorem ofRel_succ (l : List IPair) (k : Nat) (h : k < l.length) : ofRel l (k + 1) = addR (ofRel l k) (l.getD k (0, 0)).1 (l.getD k (0, 0)).2 := by
  unfold ofRel
  rw [List.take_add_one, List.getElem?_eq_getElem h, List.foldl_append, List.getD_eq_getElem?_getD, List.getElem?_eq_getElem h]
  rfl
theorem ofPairs_succ (l : List IPair) (k : Nat) (h : k < l.length) : ofPairs l (k + 1) = if rightP (l.getD k (0, 0)).1 (l.getD k (0, 0)).2 then putP (ofPairs l k) (l.getD k (0, 0)).1 (l.getD k (0, 0)).2 else ofPairs l k := by
  unfold ofPairs
  rw [List.take_add_one, List.getElem?_eq_getElem h, List.foldl_append, List.getD_eq_getElem?_getD, List.getElem?_eq_getElem h]
  rfl
theorem ofRel_ok (l : List IPair) (k : Nat) : RelOK (ofRel l k) := by
  unfold ofRel
  suffices h : ∀ (xs : List IPair) (s : Nat → Nat), RelOK s → RelOK (xs.foldl (fun r p => addR r p.1 p.2) s) from h _ _ (fun _ => by show 0 < _; decide)
  intro xs
  induction xs with
  | nil => intro s hs; exact hs
  | cons x xs ih => intro s hs; exact ih _ (addR_ok hs _ _)
theorem ofPairs_len (l : List IPair) (k : Nat) : (ofPairs l k).length ≤ k := by
  induction k with
  | zero => simp [ofPairs]
  | succ k ih =>
    by_cases h : k < l.length
    · rw [ofPairs_succ l k h]
      split
      · have := putP_len (ofPairs l k) (l.getD k (0, 0)).1 (l.getD k (0, 0)).2
        omega
      · omega
    · have : ofPairs l (k + 1) = ofPairs l k := by unfold ofPairs; rw [List.take_of_length_le (by omega), List.take_of_length_le (by omega)]
      rw [this]; omega
theorem rightP_add (a b : Int) : rightP a b = (inS a && inS b) := rfl

theorem blk_cell {w : World} {g i : Nat} {cs : Array Value} {T : TypeId} (h : Blk w g cs T) : w.cell? ⟨g, i, none⟩ = cs[i]? := by
  have h' : w.heap[g]? = some (.cells cs T (0, 0)) := h
  simp [World.cell?, h']
/-- A row of pairs does not lie in a relation. -/
theorem Pairs.apart {w w' : World} {v : Value} {xs : List IPair} {g : Nat} {r : Nat → Nat} {T : TypeId} (h : Pairs w v xs) (hb : Blk w g (relArr r) T) (hc : Ch (· = g) w w') : Pairs w' v xs := by
  cases xs with
  | nil =>
    obtain ⟨A, c, hv, hl, hx⟩ := h
    exact ⟨A, c, hv, hl, fun h0 => absurd h0 (by simp)⟩
  | cons p xs =>
    refine h.ch hc (fun b hv hbg => ?_)
    have hbg' : b = g := hbg
    subst hbg'
    obtain ⟨A, c, hv2, hl, hx⟩ := h
    obtain ⟨ad, rfl, hcell⟩ := hx (by simp)
    have h2 := (hcell 0 (by simp)).2
    rw [add_block] at h2
    rw [hv2] at hv
    have e : ad.block = b := by simpa [Value.ownBlock] using hv
    rw [e, blk_cell hb] at h2
    by_cases hi : (ad.add (0 * 2)).off + 1 < 64
    · rw [relArr, arrOf_get _ _ _ hi] at h2; simp at h2
    · rw [Array.getElem?_eq_none (by rw [relArr_size]; omega)] at h2; cases h2
/-- The relation, the row of its pairs, and that all went well. -/
def RetOf (w : World) (l : List IPair) (e : Ending) (w' : World) : Prop := ∃ v, e = .returned (.tuple #[.agg (relArr (ofRel l l.length)), v, .bool true]) ∧ Pairs w' v (ofPairs l l.length) ∧ Ch nob w w'
set_option maxHeartbeats 1000000 in
theorem of_law02 (v : Value) (l : List IPair) (w : World) (hl : Pairs w v l) (hn : l.length ≤ 1000) : Calls Tryd.prog 9 #[v] w (RetOf w l) := by
  obtain ⟨A, c, rfl⟩ := hl.shape
  have HL := Lib.hid hl
  obtain ⟨hz1, ho1, hc1, hs1⟩ := two_new w (relArr fun _ => 0) (relArr fun _ => 0) 27 27
  clear hl
  go_enter Tryd.func9, Tryd.ntmps9
  go_wp2_with fail
  generalize (w.alloc _).alloc _ = w1 at hz1 ho1 hc1 ⊢
  have hn1 : Pairs w1 (.slice none 0 0) [] := ⟨none, 0, rfl, by simp, fun h => absurd h (by simp)⟩
  go_loopw [6, 11] (fun o q wr => ∃ i : Nat, q = .int .i64 i ∧ i ≤ l.length ∧ Pairs wr o (ofPairs l i) ∧ Blk wr w.heap.size (relArr fun _ => 0) 27 ∧ Blk wr (w.heap.size + 1) (relArr (ofRel l i)) 27 ∧ Ch nob w wr) (fun _ q _ => l.length - (intOf q).toNat)
  case atStart => exact ⟨0, rfl, by omega, hn1, hz1, ho1, hc1⟩
  case round =>
    clear hz1 ho1 hc1 hs1 hn1
    obtain ⟨i, rfl, hi, hp, hz, ho, hc⟩ := hrel
    by_cases hlt : i < l.length
    · have hd : decide ((i : Int) < (l.length : Int)) = true := decide_eq_true (by omega)
      obtain ⟨_, _, hcells⟩ := (HL.out.keep hc).at
      obtain ⟨ad, rfl, hx1, hx2⟩ := hcells i hlt
      have HS := Lib.hid (ofRel_succ l i hlt)
      have HT := Lib.hid (ofPairs_succ l i hlt)
      have okr := ofRel_ok l i
      have hlen := ofPairs_len l i
      obtain ⟨p, hpp⟩ : ∃ p, l.getD i (0, 0) = p := ⟨_, rfl⟩
      rw [hpp] at hx1 hx2 HS HT
      obtain ⟨r, hr⟩ : ∃ r, ofRel l i = r := ⟨_, rfl⟩
      rw [hr] at ho HS okr
      obtain ⟨a, b⟩ := p
      clear hcells hpp hr
      simp only at hx1 hx2 HS HT
      have hp2 := hp.keep ((Ch.refl nob wr).alloc (.cells #[.int .i64 a, .int .i64 b] 42))
      have hz2 := hz.alloc (.cells #[.int .i64 a, .int .i64 b] 42)
      have ho2 := ho.alloc (.cells #[.int .i64 a, .int .i64 b] 42)
      have hc2 := hc.alloc (.cells #[.int .i64 a, .int .i64 b] 42)
      have hb2 := Blk.new wr #[.int .i64 a, .int .i64 b] 42
      have hlt2 := ho.lt
      clear hp hz ho hc
      go_wp2_with fail
      generalize wr.alloc _ = w2 at hp2 hz2 ho2 hc2 hb2 ⊢
      obtain ⟨g, hg⟩ : ∃ g, wr.heap.size = g := ⟨_, rfl⟩
      rw [hg] at hb2 hlt2 ⊢
      clear hg hx1 hx2
      have hx0 : w2.cell? ⟨g, 0, none⟩ = some (.int .i64 a) := hb2.cell rfl
      have hx1 : w2.cell? ⟨g, 1, none⟩ = some (.int .i64 b) := hb2.cell rfl
      cases hq : rightP a b
      all_goals
        have HQ := Lib.hid hq
        have HQA := Lib.hid ((rightP_add a b).symm.trans hq)
        rw [hq] at HT
        clear hq
        go_region_held3 (fun w' => w'.cell? ⟨g, 0, none⟩ = some (.int .i64 a) ∧ w'.cell? ⟨g, 1, none⟩ = some (.int .i64 b)) (first | exact ⟨hx0, hx1⟩ | assumption)
          (first | (go_at_call 31; refine (add_rel r okr (w.heap.size + 1) a b _ (by exact ho2)).mono ?_; rintro e w5 ⟨rfl, ho5, hc5⟩; rw [HQA.out]; have hb5 : Blk w5 g #[.int .i64 a, .int .i64 b] 42 := Blk.ch (by exact hb2) hc5 (by omega); have hS5 : w5.cell? ⟨g, 0, none⟩ = some (.int .i64 a) ∧ w5.cell? ⟨g, 1, none⟩ = some (.int .i64 b) := ⟨hb5.cell rfl, hb5.cell rfl⟩) | (go_at_call 18; refine (right_ref02 a b _).mono ?_; rintro e w6 ⟨rfl, hc6⟩; rw [HQ.out]; have hb6 := hb5.ch hc6 (fun h => h); have hS6 : w6.cell? ⟨g, 0, none⟩ = some (.int .i64 a) ∧ w6.cell? ⟨g, 1, none⟩ = some (.int .i64 b) := ⟨hb6.cell rfl, hb6.cell rfl⟩))
        have hz6 : Blk w6 w.heap.size (relArr fun _ => 0) 27 := (Blk.ch hz2 hc5.of_drew (by omega)).ch hc6 (fun h => h)
        have ho6 := ho5.ch hc6 (fun h => h)
        rw [← HS.out] at ho6
        have hp6 := (Pairs.apart (w := w2) (w' := w5) hp2 ho2 hc5.of_drew).keep hc6
        have hc7 := (hc2.fresh hc5.of_drew (by omega)).seq hc6
        obtain ⟨hy0, hy1⟩ := hS6
        clear hS5 hb5 ho5 hx0 hx1 hp2 hz2 ho2 hc2 hb2
        go_wp2_with fail
        refine (right_ref02 a b _).mono ?_
        rintro e w8 ⟨rfl, hc8⟩
        rw [HQ.out]
        have hb8 := hb6.ch hc8 (fun h => h)
        have hz8 := hz6.ch hc8 (fun h => h)
        have ho8 := ho6.ch hc8 (fun h => h)
        have hp8 := hp6.keep hc8
        have hc9 := hc7.seq hc8
        have hv0 : w8.cell? ⟨g, 0, none⟩ = some (.int .i64 a) := hb8.cell rfl
        have hv1 : w8.cell? ⟨g, 1, none⟩ = some (.int .i64 b) := hb8.cell rfl
        clear hb6 hz6 ho6 hp6 hc7 hc8 hy0 hy1 hc5 hc6
      · have HE := Lib.hid (show ofPairs l (i + 1) = ofPairs l i from HT.out)
        rw [← HE.out] at hp8
        go_wp2_with fail
        go_roundw
        case rel => exact ⟨i + 1, by go_num, by omega, hp8, hz8, ho8, hc9⟩
        case measure => simp [intOf]; omega
      · have HE := Lib.hid (show ofPairs l (i + 1) = putP (ofPairs l i) a b from HT.out)
        go_wp2_with fail
        refine (put_ref02 _ (ofPairs l i) a b _ hp8 (by omega)).mono ?_
        rintro e w9 ⟨u, rfl, hp9, hc10⟩
        rw [← HE.out] at hp9
        have hz10 := hz8.ch hc10 (fun h => h)
        have ho10 := ho8.ch hc10 (fun h => h)
        have hc11 := hc9.seq hc10
        clear hp8 hz8 ho8 hc9 hc10
        go_wp2_with fail
        go_roundw
        case rel => exact ⟨i + 1, by go_num, by omega, hp9, hz10, ho10, hc11⟩
        case measure => simp [intOf]; omega
    · obtain rfl : i = l.length := by omega
      have hd : decide ((l.length : Int) < (l.length : Int)) = false := by simp
      have hsz : (relArr (ofRel l l.length)).size = 64 := relArr_size _
      have hce := relArr_cells (ofRel l l.length)
      obtain ⟨C, hC⟩ : ∃ C, relArr (ofRel l l.length) = C := ⟨_, rfl⟩
      have HC := Lib.hid hC
      rw [hC] at hsz hce ho
      obtain ⟨Z, hZ⟩ : ∃ Z, (relArr fun _ => 0) = Z := ⟨_, rfl⟩
      have hzz : Z.size = 64 := by rw [← hZ]; exact relArr_size _
      rw [hZ] at hz
      have hzl := hz.lt
      have hp3 := hp.apart (r := fun _ => 0) (by rw [hZ]; exact hz) ((Ch.refl (· = w.heap.size) wr).setRow w.heap.size C (fun _ => rfl))
      clear hC hZ
      go_wp2_with (first | (refine wpList_load_row rfl 27 (.tmp 5) rfl (w.heap.size + 1) rfl 27 C (0, 0) _ ho rfl rfl (by rw [hsz]; kernel_rfl) ?_) | (refine wpList_store_row rfl 27 (.tmp 2) (.tmp 34) rfl w.heap.size C rfl rfl 27 _ hz (by rw [hsz]; kernel_rfl) (by rw [hzz, hsz]) hce ?_))
      have hz3 := hz.row C
      have hc3 := hc.setRow w.heap.size C (fun h => by omega)
      exact bodyPost_ret (results_cell_row3 rfl _ _ w.heap.size 27 C (0, 0) _ rfl hz3 rfl rfl (by rw [hsz]; kernel_rfl)) rfl ⟨_, by rw [HC.out]; rfl, hp3, hc3⟩
end Go.Proofs.YtbpmcjndlbkkiaaDoor
