/- The history laws' first test, and their bound. No condition but each theorem's own. -/
import Derived.Test.YtobfanodjdkkoaaHistE
set_option linter.unusedVariables false
set_option linter.unusedSimpArgs false
namespace Go.Proofs.Ytobfanodjdkkoaa
open Go.RowKit Go.Maps

section
variable {P : Program} (w : World) {ops : Array Oper} {rest : List Oper} {o : Oper} {a : Act} {Q : Exit → Act → World → Prop}
theorem wpList_wanted (hw : Region.wanted o (yielded ops a.tmps) = true)
    (h : ∀ K : Act → World → Prop, (∀ a w, wpList P ops Q rest a w → K a w) → o.wp P a w K Q) : wpList P ops Q (o :: rest) a w :=
  wpList_step fun K hK => by rw [if_pos hw]; exact h K hK
theorem wpList_imap_getG (hw : Region.wanted o (yielded ops a.tmps) = true) (m x : Operand) (T : TypeId) (hop : o.op = Op.lookup T m x false) (K E : TypeId) (hK : P.underlying K = some (.int .i64)) (hT : P.underlying T = some (.map K E)) (z : Value) (hz : (zeroValue E).run P w = .ok z w)
    (b c : Nat) (f : Int → Option Value) (hm : a.eval m = .map (some b)) (h : IMap P K w b c f) (k : Int) (hx : a.eval x = .int .i64 k) (hk : (Lit.int .i64 k).wf = true)
    (hN : wpList P ops Q rest (a.put o.dst ((f k).getD z)) w) : wpList P ops Q (o :: rest) a w := by
  refine wpList_wanted w hw fun K' hK' => ?_
  have hrun := (h.at_ hK hT hz k hk).2
  unfold Oper.wp
  simp [execOp, hop, hm, hx, hrun, Result.andThen]
  exact hK' _ _ hN
theorem wpList_imap_lenG (hw : Region.wanted o (yielded ops a.tmps) = true) (m : Operand) (T : TypeId) (hop : o.op = Op.call { callee := Callee.builtin Builtin.len, args := #[m], argTypes := #[T] }) (K E : TypeId) (hT : P.underlying T = some (.map K E))
    (b c : Nat) (f : Int → Option Value) (hm : a.eval m = .map (some b)) (h : IMap P K w b c f) (hN : wpList P ops Q rest (a.put o.dst (.int .i64 c)) w) : wpList P ops Q (o :: rest) a w := by
  obtain ⟨D, ho, hs, _⟩ := h
  refine wpList_wanted w hw fun K' hK' => ?_
  unfold Oper.wp
  simp [execOp, hop, resolve, invoke, builtin, hm, ho.len hT o.type, Result.andThen]
  exact hK' _ _ (by rw [hs]; exact hN)
end
set_option maxRecDepth 20000 in
set_option maxHeartbeats 1000000 in
theorem op_write (k v : Int) (w : World) : Calls Try.prog 43 #[.int .i64 k, .int .i64 v] w fun e w' => e = .returned (.agg #[.bool true, .int .i64 k, .int .i64 v]) ∧ Ch nob w w' := by
  have hc0 : Ch nob w (w.alloc (.cells #[.bool true, .int .i64 k, .int .i64 v] 35)) := (Ch.refl _ _).alloc _
  go_enter Try.func43, Try.ntmps43
  go_wp2_with fail
  exact bodyPost_ret (results_cell_row rfl _ _ w.heap.size 35 #[.bool true, .int .i64 k, .int .i64 v] (0, 0) _ rfl (Blk.new _ _ _) rfl rfl (by kernel_rfl)) rfl ⟨rfl, hc0⟩
theorem opl_one {w : World} {g c : Nat} {x : Opn} {T : TypeId} (hb : Blk w g #[.bool x.wr, .int .i64 x.key, .int .i64 x.val] T) (hc : 1 ≤ c) : Opl w (.slice (some ⟨g, 0, none⟩) 1 c) [x] := by
  refine ⟨_, _, rfl, ⟨hc, by simp⟩, fun _ => ⟨_, rfl, fun j hj => ?_⟩⟩
  obtain rfl : j = 0 := by simp at hj; exact hj
  exact ⟨hb.cell (i := 0) rfl, hb.cell (i := 1) rfl, hb.cell (i := 2) rfl⟩
theorem txns_two {w : World} {g c : Nat} {a b : Txr} {u v : Value} {T : TypeId} (hb : Blk w g #[.int .i64 a.ses, .int .i64 a.beg, .int .i64 a.com, u, .int .i64 b.ses, .int .i64 b.beg, .int .i64 b.com, v] T) (hu : Opl w u a.ops) (hv : Opl w v b.ops) (hc : 2 ≤ c) :
    Txns w (.slice (some ⟨g, 0, none⟩) 2 c) [a, b] ∧ Txns w (.slice (some ⟨g, 0, none⟩) 1 c) [a] := by
  refine ⟨⟨_, _, rfl, ⟨hc, by simp⟩, fun _ => ⟨_, rfl, fun j hj => ?_⟩⟩, ⟨_, _, rfl, ⟨show 1 ≤ c by omega, by simp⟩, fun _ => ⟨_, rfl, fun j hj => ?_⟩⟩⟩
  · obtain rfl | rfl : j = 0 ∨ j = 1 := by simp at hj; omega
    · exact ⟨u, hb.cell (i := 0) rfl, hb.cell (i := 1) rfl, hb.cell (i := 2) rfl, hb.cell (i := 3) rfl, hu⟩
    · exact ⟨v, hb.cell (i := 4) rfl, hb.cell (i := 5) rfl, hb.cell (i := 6) rfl, hb.cell (i := 7) rfl, hv⟩
  · obtain rfl : j = 0 := by simp at hj; exact hj
    exact ⟨u, hb.cell (i := 0) rfl, hb.cell (i := 1) rfl, hb.cell (i := 2) rfl, hb.cell (i := 3) rfl, hu⟩
def spk1 : Txr := ⟨0, 1, 2, [⟨true, 0, 5⟩]⟩
def spk2 : Txr := ⟨0, 3, 4, [⟨true, 1, 5⟩]⟩
theorem spk_two : chkH [spk1, spk2] = 2 := by decide
theorem spk_one : chkH [spk1] = 0 := by decide
theorem spk_ok : TxnsOk [spk1, spk2] ∧ TxnsOk [spk1] := by
  have h1 : TxrOk spk1 := ⟨⟨fun i hi => by
    obtain rfl : i = 0 := by have : i < 1 := hi; omega
    decide, fun i hi => by
    obtain rfl : i = 0 := by have : i < 1 := hi; omega
    decide⟩, by decide, by decide, by decide⟩
  have h2 : TxrOk spk2 := ⟨⟨fun i hi => by
    obtain rfl : i = 0 := by have : i < 1 := hi; omega
    decide, fun i hi => by
    obtain rfl : i = 0 := by have : i < 1 := hi; omega
    decide⟩, by decide, by decide, by decide⟩
  constructor <;> intro i hi <;> simp at hi
  · obtain rfl | rfl : i = 0 ∨ i = 1 := by omega
    · exact h1
    · exact h2
  · subst hi
    exact h1
set_option maxRecDepth 100000 in
set_option maxHeartbeats 2000000 in
theorem speaks06 (w : World) : Calls Try.prog 11 #[] w fun e w' => e = .returned (.bool true) ∧ Ch nob w w' := by
  go_enter Try.func11, Try.ntmps11
  go_wp2_with fail
  refine (op_write 0 5 w).mono ?_
  rintro e w1 ⟨rfl, hc1⟩
  go_wp2_with fail
  refine (op_write 1 5 _).mono ?_
  rintro e w2 ⟨rfl, hc2⟩
  go_wp2_with fail
  have hbA : Blk (w1.alloc (.cells #[.bool true, .int .i64 0, .int .i64 5] 35)) w1.heap.size #[.bool true, .int .i64 0, .int .i64 5] 35 := Blk.new _ _ _
  obtain ⟨g1, hg1⟩ : ∃ g, w1.heap.size = g := ⟨_, rfl⟩
  obtain ⟨g2, hg2⟩ : ∃ g, w2.heap.size = g := ⟨_, rfl⟩
  have hbB := hbA.ch hc2 (fun h => h)
  have hbC := (Blk.new w2 #[.bool true, .int .i64 1, .int .i64 5] 35)
  obtain ⟨w3, hw3⟩ : ∃ w3, w2.alloc (.cells #[.bool true, .int .i64 1, .int .i64 5] 35) = w3 := ⟨_, rfl⟩
  have hz3 : w3.heap.size = g2 + 1 := by rw [← hw3, ← hg2]; simp
  have hc3 : Ch nob w2 w3 := by rw [← hw3]; exact (Ch.refl _ _).alloc _
  have hbB3 := hbB.ch hc3 (fun h => h)
  have hc4 : Ch nob w w3 := ((hc1.alloc _).seq hc2).seq hc3
  rw [hw3] at hbC ⊢
  rw [hg1] at hbB3
  rw [hg2] at hbC
  rw [hg1, hg2]
  have hbD := (Blk.new w3 #[.int .i64 0, .int .i64 1, .int .i64 2, .slice (some ⟨g1, 0, none⟩) 1 1, .int .i64 0, .int .i64 3, .int .i64 4, .slice (some ⟨g2, 0, none⟩) 1 1] 33)
  rw [hz3] at hbD
  obtain ⟨w4, hw4⟩ : ∃ w4, w3.alloc (.cells #[.int .i64 0, .int .i64 1, .int .i64 2, .slice (some ⟨g1, 0, none⟩) 1 1, .int .i64 0, .int .i64 3, .int .i64 4, .slice (some ⟨g2, 0, none⟩) 1 1] 33) = w4 := ⟨_, rfl⟩
  have hc5 : Ch nob w3 w4 := by rw [← hw4]; exact (Ch.refl _ _).alloc _
  rw [hw4] at hbD ⊢
  have hT := txns_two (a := spk1) (b := spk2) (c := 2) hbD (opl_one (x := ⟨true, 0, 5⟩) (hbB3.ch hc5 (fun h => h)) (Nat.le_refl _)) (opl_one (x := ⟨true, 1, 5⟩) (hbC.ch hc5 (fun h => h)) (Nat.le_refl _)) (Nat.le_refl _)
  have hc6 := hc4.seq hc5
  have HT := Lib.hid hT
  obtain ⟨g3, hg3⟩ : ∃ g, g2 + 1 = g := ⟨_, rfl⟩
  rw [hg3] at HT ⊢
  clear hbA hbB hbC hw3 hz3 hc3 hbB3 hc4 hbD hw4 hc5 hT hg1 hg2 hg3 hc1 hc2
  refine (writes_history _ _ [spk1] HT.out.2 spk_ok.2 (by decide)).mono ?_
  rintro e w5 ⟨hres, hc7⟩
  rcases hres with ⟨b, N, rfl, hN, hmap⟩ | ⟨b, rfl, hN⟩
  · have hN5 : N 5 = some ⟨0, 0, true⟩ := by
      have : histF [spk1] 1 = some (markF (putW (fun _ => none) 5 ⟨0, 0, false⟩) (isLast [⟨true, 0, 5⟩])) := rfl
      rw [show [spk1].length = 1 from rfl, this] at hN
      cases hN
      decide
    have HT5 := Lib.hid (And.intro (HT.out.1.keep hc7) (HT.out.2.keep hc7))
    have HM := Lib.hid hmap
    have hc8 := hc6.seq hc7
    clear HT hmap hc7 hc6 hN
    go_wp2_with fail
    refine (check_history _ _ [spk1, spk2] HT5.out.1 spk_ok.1 (by decide)).mono ?_
    rintro e w6 ⟨rfl, hcA⟩
    rw [spk_two]
    have hcB := hc8.seq hcA
    have HT6 := Lib.hid (And.intro (HT5.out.1.keep hcA) (HT5.out.2.keep hcA))
    have HM6 := Lib.hid (HM.out.keep hcA)
    clear HT5 HM hcA hc8
    go_wp2_with fail
    refine (check_history _ _ [spk1] HT6.out.2 spk_ok.2 (by decide)).mono ?_
    rintro e w7 ⟨rfl, hcA⟩
    rw [spk_one]
    have hcC := hcB.seq hcA
    have HT7 := Lib.hid (HT6.out.1.keep hcA)
    have HM7 := Lib.hid (HM6.out.keep hcA)
    have hlk : wmF N 5 = some (.agg #[.int .i64 0, .int .i64 0, .bool true]) := by unfold wmF; rw [hN5]; rfl
    clear HT6 HM6 hcA hcB
    have hm7 := HM7.out
    go_wp2_with (first
      | (at_len; refine wpList_imap_lenG _ rfl _ 28 rfl 3 37 under_miw _ _ _ rfl hm7 ?_)
      | (at_lookup; refine wpList_imap_getG _ rfl _ _ 28 rfl 3 37 under_int under_miw _ (by kernel_rfl : (zeroValue 37).run Try.prog _ = .ok (.agg #[.int .i64 0, .int .i64 0, .bool false]) _) _ _ _ rfl hm7 _ rfl (by decide) ?_; rw [hlk]; simp only [Option.getD_some]))
    have HOP := Lib.hid (ops_history w7 _ [spk1, spk2] HT7.out (by decide))
    have hct : countTo [spk1, spk2] [spk1, spk2].length = 2 := by decide
    rw [hct] at HOP
    refine HOP.out.mono ?_
    rintro e w8 ⟨rfl, hcA⟩
    have hcD := hcC.seq hcA
    clear HOP hct hm7 HM7 HT7 hlk
    go_wp2_with fail
    go_ret
    exact ⟨rfl, hcD⟩
  · exact absurd hN (by decide)
end Go.Proofs.Ytobfanodjdkkoaa
