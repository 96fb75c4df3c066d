/- The program's account of a transaction: what it writes for others. No condition but each theorem's own. -/
import Derived.Test.YtobfanodjdkkoaaDoorTxnB
set_option linter.unusedVariables false
set_option linter.unusedSimpArgs false
namespace Go.Proofs.YtobfanodjdkkoaaDoor
open Go.RowKit Go.Maps

/-- The last write to some key, of the first i. -/
def lastW (xs : List Opn) : Nat → Int → Option Opn
  | 0, _ => none
  | i + 1, k => if (xs.getD i opZero).wr = true ∧ (xs.getD i opZero).key = k then some (xs.getD i opZero) else lastW xs i k
theorem lastW_key (xs : List Opn) (k : Int) (o : Opn) : ∀ i, lastW xs i k = some o → o.key = k
  | 0, h => by cases h
  | i + 1, h => by
    unfold lastW at h
    split at h
    · rename_i c
      cases h
      exact c.2
    · exact lastW_key xs k o i h
def opVal (o : Opn) : Value := .agg #[.bool o.wr, .int .i64 o.key, .int .i64 o.val]
def lastWF (xs : List Opn) (i : Nat) : Int → Option Value := fun k => (lastW xs i k).map opVal
theorem lastWF_yes (xs : List Opn) (i : Nat) (x : Opn) (h : xs.getD i opZero = x) (hw : x.wr = true) : putM (lastWF xs i) x.key (opVal x) = lastWF xs (i + 1) := by
  funext k
  unfold putM lastWF
  show _ = Option.map _ (if (xs.getD i opZero).wr = true ∧ (xs.getD i opZero).key = k then some (xs.getD i opZero) else lastW xs i k)
  rw [h]
  by_cases e : k = x.key
  · subst e
    rw [if_pos rfl, if_pos ⟨hw, rfl⟩]
    rfl
  · rw [if_neg e, if_neg (fun e2 => e e2.2.symm)]
theorem lastWF_no (xs : List Opn) (i : Nat) (x : Opn) (h : xs.getD i opZero = x) (hw : x.wr = false) : lastWF xs i = lastWF xs (i + 1) := by
  funext k
  unfold lastWF
  show _ = Option.map _ (if (xs.getD i opZero).wr = true ∧ (xs.getD i opZero).key = k then some (xs.getD i opZero) else lastW xs i k)
  rw [h, if_neg (fun e => by rw [hw] at e; cases e.1)]
theorem under_mio : Tryd.prog.underlying 42 = some (.map 3 33) := by kernel_rfl
/-- 'make([]Op, 0, c)'. -/
theorem wpList_make_op {w : World} {ops : Array Oper} {rest : List Oper} {o : Oper} {a : Act} {Q : Exit → Act → World → Prop} (hgd : o.guard = none) (l c : Operand) (ho : o.op = Op.makeSlice 22 l c)
    (base : Nat) (n : Nat) (hl : a.eval l = .int .i64 0) (hc : a.eval c = .int .i64 n) (hn : n ≤ 1000000) (hbase : base ≤ w.heap.size)
    (h : ∀ w', OwnO w' base 33 (.slice (some ⟨w.heap.size, 0, none⟩) 0 n) [] → Ch nob w w' → wpList Tryd.prog ops Q rest (a.put o.dst (.slice (some ⟨w.heap.size, 0, none⟩) 0 n)) w') : wpList Tryd.prog ops Q (o :: rest) a w := by
  obtain ⟨i, hi, hz0, hz1, hz2⟩ := elem_op.get
  exact wpList_make_own w hgd l c 22 ho base 33 i _ 3 elem_op.under hi hz0 hz1 .i64 .i64 n n hl hc rfl (by rw [hz2]; omega) (by unfold maxLen; omega) hbase (fun w' h1 h2 => h w' h1 ⟨h2.os, h2.tape, h2.output, h2.size, fun k hk _ => h2.block k hk (by simp)⟩)
/-- The step of a loop over a map whose elements are operations. -/
theorem wpList_imap_step {P : Program} (w : World) {ops : Array Oper} {rest : List Oper} {o : Oper} {a : Act} {Q : Exit → Act → World → Prop} (hg : o.guard = none) (it : Operand) (hop : o.op = Op.next it false) (K : TypeId) (hK : P.underlying K = some (.int .i64))
    (b r c : Nat) (F : Int → Option Opn) (left : Int → Bool) (cnt : Nat) (hm : a.eval it = .pointer (some ⟨r, 0, none⟩)) (h : IRange P K w b r c (fun k => (F k).map opVal) left cnt)
    (hDone : (∀ k, left k = false) → wpList P ops Q rest (a.put o.dst (.tuple #[.bool false])) w)
    (hMore : ∀ (k : Int) (y : Opn) (w' : World) (cnt' : Nat), (Lit.int .i64 k).wf = true → left k = true → F k = some y → IRange P K w' b r c (fun k => (F k).map opVal) (fun x => left x && !decide (x = k)) cnt' → cnt' < cnt → Ch (· = r) w w' → w'.heap.size = w.heap.size →
      (Instr.entry (.pointer (some ⟨r, 0, none⟩))).run P w' = .ok (.tuple #[.int .i64 k, .agg #[.bool y.wr, .int .i64 y.key, .int .i64 y.val]]) w' → wpList P ops Q rest (a.put o.dst (.tuple #[.bool true, .int .i64 k, .agg #[.bool y.wr, .int .i64 y.key, .int .i64 y.val]])) w') : wpList P ops Q (o :: rest) a w :=
  wpList_imap_next w hg it hop K hK b r c _ left cnt hm h hDone fun k v w' cnt' h1 h2 h3 h4 h5 h6 h7 h8 => by
    obtain ⟨y, hy, rfl⟩ := Option.map_eq_some_iff.1 h3
    exact hMore k y w' cnt' h1 h2 hy h4 h5 h6 h7 h8
/-- A row lies in no map, and in no walk over one. -/
theorem OwnO.apart {P : Program} {K : TypeId} {w : World} {b r c : Nat} {f : Int → Option Value} {left : Int → Bool} {cnt base e : Nat} {v : Value} {ys : List Opn} (h : OwnO w base e v ys) (hr : IRange P K w b r c f left cnt) : v.ownBlock ≠ some b ∧ v.ownBlock ≠ some r := by
  obtain ⟨D, l, ⟨es, clock, since, seen, c0, h1, h2, h3, h4, h5, _⟩, _⟩ := hr
  rcases h.2 with ⟨hv, _⟩ | ⟨g, cap, cur, hv, _, hg, _⟩
  · rw [hv]; exact ⟨by simp [Value.ownBlock], by simp [Value.ownBlock]⟩
  · rw [hv]
    constructor
    · intro e; simp [Value.ownBlock] at e; rw [e, h1] at hg; cases hg
    · intro e; simp [Value.ownBlock] at e; rw [e, h5] at hg; cases hg
/-- A fresh row of operations, rising by their keys, that holds just these. -/
def RetBy (w : World) (F : Int → Option Opn) (e : Ending) (w' : World) : Prop := ∃ v ys, e = .returned v ∧ OwnO w' w.heap.size 33 v ys ∧ ys.Pairwise (fun x y => x.key < y.key) ∧ (∀ x, x ∈ ys ↔ F x.key = some x) ∧ Ch nob w w'
/-- Gathered so far. -/
structure Gath (F : Int → Option Opn) (left : Int → Bool) (ys : List Opn) : Prop where
  mem : ∀ x, x ∈ ys → F x.key = some x ∧ left x.key = false
  all : ∀ k o, F k = some o → left k = false → o ∈ ys
  one : (ys.map Opn.key).Nodup
theorem Gath.start (F : Int → Option Opn) : Gath F (fun k => ((F k).map opVal).isSome) [] :=
  ⟨fun x h => (by cases h), fun k o h1 h2 => (by simp [h1] at h2), List.nodup_nil⟩
theorem Gath.step {F : Int → Option Opn} {left : Int → Bool} {ys : List Opn} {k : Int} {o : Opn} (h : Gath F left ys) (hk : F k = some o) (hok : o.key = k) (hl : left k = true) : Gath F (fun x => left x && !decide (x = k)) (ys ++ [o]) := by
  refine ⟨fun x hx => ?_, fun j y h1 h2 => ?_, ?_⟩
  · rcases List.mem_append.1 hx with h3 | h3
    · exact ⟨(h.mem x h3).1, by rw [(h.mem x h3).2]; rfl⟩
    · rw [List.mem_singleton] at h3
      subst h3
      exact ⟨by rw [hok]; exact hk, by rw [hok]; simp⟩
  · by_cases e : j = k
    · subst e
      rw [hk] at h1
      cases h1
      simp
    · exact List.mem_append_left _ (h.all j y h1 (by simpa [e] using h2))
  · rw [List.map_append, List.nodup_append]
    refine ⟨h.one, by simp, fun a ha b hb e => ?_⟩
    rw [List.map_singleton, List.mem_singleton] at hb
    obtain ⟨x, hx, rfl⟩ := List.mem_map.1 ha
    have := (h.mem x hx).2
    rw [e, hb, hok, hl] at this
    cases this
theorem Gath.done {F : Int → Option Opn} {left : Int → Bool} {ys zs : List Opn} (h : Gath F left ys) (hl : ∀ k, left k = false) (hs : Sorts ys zs) : zs.Pairwise (fun x y => x.key < y.key) ∧ ∀ x, x ∈ zs ↔ F x.key = some x := by
  obtain ⟨_, h1, h2, h3⟩ := hs
  constructor
  · have h4 := h3 h.one
    rw [List.Nodup, List.pairwise_map] at h4
    unfold InOrder at h1
    exact (h1.and h4).imp fun h => by omega
  · intro x
    rw [h2]
    exact ⟨fun hx => (h.mem x hx).1, fun hx => h.all _ _ hx (hl _)⟩

set_option maxRecDepth 100000 in
set_option maxHeartbeats 4000000 in
theorem writes (w : World) (v : Value) (xs : List Opn) (p q r : Int) (hv : Opl w v xs) (hk : KeysOk xs) (hn : xs.length ≤ 1000000) :
    Calls Tryd.prog 9 #[.agg #[.int .i64 p, .int .i64 q, .int .i64 r, v]] w (RetBy w (lastW xs xs.length)) := by
  obtain ⟨A, cp, rfl⟩ := hv.shape
  have HV := Lib.hid hv
  have HK := Lib.hid hk
  have hmm := @run_makeMap Tryd.prog
  obtain ⟨n, hn2⟩ : ∃ n, xs.length = n := ⟨_, rfl⟩
  have HN := Lib.hid hn2
  rw [hn2] at hn HV ⊢
  have hc0 : Ch nob w ((w.alloc (.cells #[.int .i64 p, .int .i64 q, .int .i64 r, .slice A n cp] 26)).alloc (.map #[] 0)) := ((Ch.refl _ _).alloc _).alloc _
  have hm0 : IMap Tryd.prog 3 ((w.alloc (.cells #[.int .i64 p, .int .i64 q, .int .i64 r, .slice A n cp] 26)).alloc (.map #[] 0)) (w.heap.size + 1) 0 (lastWF xs 0) := by
    have := IMap.made Tryd.prog 3 (w.alloc (.cells #[.int .i64 p, .int .i64 q, .int .i64 r, .slice A n cp] 26))
    rw [show lastWF xs 0 = fun _ => none from rfl]
    simpa using this
  have hz0 : w.heap.size + 2 ≤ ((w.alloc (.cells #[.int .i64 p, .int .i64 q, .int .i64 r, .slice A n cp] 26)).alloc (.map #[] 0)).heap.size := by simp
  clear hv hk hn2
  go_enter Tryd.func9, Tryd.ntmps9
  go_wp2_with fail
  go_loopw [13] (fun x wr => ∃ i c : Nat, x = .int .i64 i ∧ i ≤ n ∧ c ≤ i ∧ Hid (IMap Tryd.prog 3 wr (w.heap.size + 1) c (lastWF xs i)) ∧ w.heap.size + 2 ≤ wr.heap.size ∧ Ch nob w wr) (fun x _ => n - (intOf x).toNat)
  case atStart => exact ⟨0, 0, rfl, Nat.zero_le _, Nat.le_refl _, Lib.hid hm0, hz0, hc0⟩
  case round =>
    clear hm0 hc0 hmm hz0
    obtain ⟨i, c, rfl, hi, hci, hm, hz, hc⟩ := hrel
    by_cases hlt : i < n
    · have hd : decide ((i : Int) < (n : Int)) = true := decide_eq_true (by omega)
      obtain ⟨ad, rfl, hx0, hx1, hx2⟩ := (HV.out.keep hc).at.2.2 i (by rw [HN.out]; exact hlt)
      have hwf := HK.out i (by rw [HN.out]; exact hlt)
      obtain ⟨x, hx⟩ : ∃ x, xs.getD i opZero = x := ⟨_, rfl⟩
      rw [hx] at hx0 hx1 hx2 hwf
      have HX := Lib.hid hx
      obtain ⟨xw, xk, xv⟩ := x
      have hc1 : Ch nob wr (wr.alloc (.cells #[.bool xw, .int .i64 xk, .int .i64 xv] 33)) := (Ch.refl _ _).alloc _
      have hm1 := hm.out.keep hc1
      have hc2 := hc.seq hc1
      clear hx hm hc hc1
      cases xw with
      | false =>
        have hm2 : Hid (IMap Tryd.prog 3 (wr.alloc (.cells #[.bool false, .int .i64 xk, .int .i64 xv] 33)) (w.heap.size + 1) c (lastWF xs (i + 1))) := Lib.hid (by rw [← lastWF_no xs i _ HX.out rfl]; exact hm1)
        have hz1 : w.heap.size + 2 ≤ (wr.alloc (.cells #[.bool false, .int .i64 xk, .int .i64 xv] 33)).heap.size := by simp; omega
        go_wp2_with fail
        go_roundw
        case rel => exact ⟨i + 1, c, by go_num, by omega, by omega, hm2, hz1, hc2⟩
        case measure => simp [intOf]; omega
      | true =>
        go_wp2_with (at_mapUpdate; refine wpList_imap_put _ rfl _ _ _ 42 rfl 3 33 under_int under_mio _ _ _ rfl hm1 (by unfold maxLen; omega) _ rfl hwf (opVal ⟨true, xk, xv⟩) rfl ?_; intro w1 hm2 hc3)
        have hc4 := hc2.fresh hc3 (by omega)
        have hw4 := hc3.size
        simp at hw4
        exact ⟨⟨i + 1, (if (lastWF xs i xk).isSome then c else c + 1), by go_num, by omega, by split <;> omega, Lib.hid (by rw [← lastWF_yes xs i _ HX.out rfl]; exact hm2), by omega, hc4⟩, by simp [intOf]; omega⟩
    · have hd : decide ((i : Int) < (n : Int)) = false := decide_eq_false (by omega)
      obtain rfl : i = n := by omega
      have hmo := hm.out
      go_wp2_with (first
        | (at_len; refine wpList_imap_len _ rfl _ 42 rfl 3 33 under_mio _ _ _ rfl hmo ?_)
        | (at_make; refine wpList_make_op rfl _ _ rfl (w.heap.size + 2) c rfl rfl (by omega) hz ?_; intro w4 ho0 hc5; have hm5 := hmo.keep hc5; have hc6 := hc.seq hc5)
        | (at_range; refine wpList_imap_range _ rfl _ 42 rfl 3 33 under_int under_mio _ _ _ rfl hm5 ?_; intro w7 hr7 hc8 hs8))
      go_frame
      have hF := Lib.hid (fun k o (h : lastW xs i k = some o) => lastW_key xs k o i h)
      have hG0 := Lib.hid (Gath.start (lastW xs i))
      have ho7 := Lib.hid (ho0.keep hc8)
      have hc9 := hc6.seq hc8
      have hz9 : w.heap.size + 2 ≤ w7.heap.size := by have := hc5.size; omega
      have hr8 := Lib.hid hr7
      have hrr : w.heap.size + 2 ≤ w4.heap.size := by have := hc5.size; omega
      clear hmo hm5 hc5 hc6 hc8 hr7 ho0 hm hc hz HK HV
      obtain ⟨rr, hrr2⟩ : ∃ rr, w4.heap.size = rr := ⟨_, rfl⟩
      rw [hrr2] at hr8 hrr ⊢
      clear hrr2 hs8
      go_loopw [6] (fun y wr => ∃ (ys : List Opn) (left : Int → Bool) (cnt : Nat), Hid (IRange Tryd.prog 3 wr (w.heap.size + 1) rr c (lastWF xs i) left cnt) ∧ Hid (OwnO wr (w.heap.size + 2) 33 y ys) ∧ Hid (Gath (lastW xs i) left ys) ∧ ys.length + cnt ≤ c ∧ w.heap.size + 2 ≤ wr.heap.size ∧ Ch nob w wr) (fun _ wr => wr.rangeLeft (w.heap.size + 1) rr)
      case atStart => exact ⟨[], _, c, hr8, ho7, hG0, by simp, hz9, hc9⟩
      case round =>
        clear hr8 ho7 hG0 hz9 hc9
        obtain ⟨ys, left, cnt, hr, ho, hG, hyl, hz, hc⟩ := hrel
        have hro := hr.out
        have hro2 : IRange Tryd.prog 3 wr (w.heap.size + 1) rr c (fun k => (lastW xs i k).map opVal) left cnt := hro
        go_wp2_with (at_next; refine wpList_imap_step _ rfl _ rfl 3 under_int (w.heap.size + 1) rr c (lastW xs i) left cnt rfl hro2 ?_ ?_)
        · intro hl0
          have HL := Lib.hid hl0
          clear hl0
          go_wp2_with fail
          refine (by_key_row _ (w.heap.size + 2) _ ys ho.out (by omega) hz).mono ?_
          rintro e w2 ⟨zs, rfl, ho2, hs2, hc2⟩
          have HO := Lib.hid (ho2.base (show w.heap.size ≤ w.heap.size + 2 by omega))
          have HS := Lib.hid (hG.out.done HL.out hs2)
          have hc3 : Ch nob w w2 := hc.trans hc2 (fun k hk e => by have := (ho.out.ge k e).1; omega)
          clear ho2 hs2 hc2 hc hr hro hro2 ho
          go_wp2_with fail
          go_ret
          exact ⟨_, zs, rfl, HO.out, HS.out.1, HS.out.2, hc3⟩
        · intro k y w1 cnt1 hwf hlk hFk hr1 hlt1 hc1 hs1 hen
          have hap := ho.out.apart hro
          have hnb := Lib.hid ((Blk.new (w1.alloc (.cells #[.bool y.wr, .int .i64 y.key, .int .i64 y.val] 33)) #[.bool y.wr, .int .i64 y.key, .int .i64 y.val] 33))
          have ho1 := ho.out.off hc1 (fun b hb e => hap.2 (by rw [hb, e]))
          have hap1 := ho1.apart hr1
          have hcA : Ch nob w1 ((w1.alloc (.cells #[.bool y.wr, .int .i64 y.key, .int .i64 y.val] 33)).alloc (.cells #[.bool y.wr, .int .i64 y.key, .int .i64 y.val] 33)) := ((Ch.refl _ _).alloc _).alloc _
          have ho3 := Lib.hid (ho1.keep hcA)
          have hr3 := Lib.hid (hr1.ch hcA (fun h => h) (fun h => h))
          have hc3 := (hc.fresh hc1 (by omega)).seq hcA
          have HGS := Lib.hid (hG.out.step hFk (hF.out k y hFk) hlk)
          have hleft := Lib.hid (show wr.rangeLeft (w.heap.size + 1) rr = cnt from hro.left_eq)
          have hz1 : w.heap.size + 2 ≤ w1.heap.size := by omega
          clear hr hro hro2 ho hc hG hlk hFk hwf hap hcA ho1 hc1 hs1 hr1 hz
          go_wp2_with (at_builtin; refine wpList_append_op rfl (.tmp 33) (.tmp 35) 22 33 rfl elem_op (w.heap.size + 2) _ ys rfl ho3.out _ y 33 rfl (by simpa using hnb.out) (by omega) (by simp; omega) ?_; intro v3 w3 hown3 hg3)
          have hr4 := hr3.out.ch (ch_of_grown hg3) hap1.1 hap1.2
          have hc4 := hc3.grown_own hg3 (fun b hb => by have := (ho3.out.ge b hb).1; omega)
          have hz4 := hg3.size
          simp at hz4
          exact ⟨⟨_, _, cnt1, Lib.hid hr4, Lib.hid hown3, HGS, by rw [List.length_append]; simp; omega, by omega, hc4⟩, by rw [hr4.left_eq, hleft.out]; exact hlt1⟩
end Go.Proofs.YtobfanodjdkkoaaDoor
