/- Texts of this claim, merged: Tell Ref01 Law12e. -/
import Derived.Test.YtlhfpnkfapghoaaDoorPk5
import Derived.Test.YtlhfpnkfapghoaaDoorPk11
import Derived.Test.YtlhfpnkfapghoaaDoorPk12
section
/- Plain law: what is told is a witness of just those levels that are kept. No condition but each theorem's own. -/
set_option linter.unusedVariables false
set_option linter.unusedSimpArgs false
namespace Go.Proofs.YtlhfpnkfapghoaaDoor
open Go.RowKit Go.Maps

theorem visTo_bit (ls : List (List Int)) (a b : Nat) (ha : a < 64) (hb : b < 64) : ∀ i, i ≤ 64 → (E (visTo ls i) a b ↔ b < i ∧ (a : Int) ∈ ls.getD b [])
  | 0, _ => by
    constructor
    · intro h
      have h' : (0 : Nat).testBit b = true := h
      rw [Nat.zero_testBit] at h'; cases h'
    · rintro ⟨h, _⟩; omega
  | i + 1, hi => by
    show E (turnRow (visTo ls i) i (ls.getD i []) (ls.getD i []).length) a b ↔ _
    rw [turnRow_bit _ _ (by omega) _ _ ha hb, visTo_bit ls a b ha hb i (by omega)]
    constructor
    · rintro (⟨h1, h2⟩ | ⟨h1, h2⟩)
      · exact ⟨by omega, h2⟩
      · subst h2; exact ⟨by omega, h1⟩
    · rintro ⟨h1, h2⟩
      by_cases e : b = i
      · subst e; exact .inr ⟨h2, rfl⟩
      · exact .inl ⟨by omega, h2⟩
/-- All pairs are of these numbers. -/
def PairsIn (n : Nat) (l : List IPair) : Prop := ∀ a b : Int, (a, b) ∈ l → a < n ∧ b < n
theorem sees_mem {V : Nat → Nat} {l : List IPair} {n i : Nat} (hl : Is V l) (hn : n ≤ 64) (hi : i < n) (x : Int) : x ∈ (seesL V n).getD i [] ↔ (x, (i : Int)) ∈ l := by
  rw [seesL_at _ _ _ hi, mem_listS]
  constructor
  · intro h
    unfold hasS inS at h
    rw [Bool.and_eq_true, decide_eq_true_iff] at h
    obtain ⟨y, rfl⟩ := Int.eq_ofNat_of_zero_le h.1.1
    have hy : y < 64 := by omega
    have h2 : (turnTo V 64 i).testBit y = true := by simpa using h.2
    exact (hl.bit hy (by omega)).2 ((turned_bit V i y (by omega) hy).1 h2)
  · intro h
    obtain ⟨j, k, rfl, e, hj, hk, he⟩ := (hasR_iff _ _ _).1 ((hl.mem _ _).1 h)
    have e : k = i := by omega
    subst e
    rw [hasS_nat _ _ hj]
    exact (turned_bit V k j (by omega) hj).2 he
theorem vis_is {V : Nat → Nat} {l : List IPair} {n : Nat} (hl : Is V l) (hn : n ≤ 64) (hin : PairsIn n l) : Is (visTo (seesL V n) n) l :=
  Is.of_bits hl.once (fun a b h => hl.in h) fun i j hi hj => by
    rw [visTo_bit _ _ _ hi hj _ hn]
    constructor
    · intro h
      have := (hin _ _ h).2
      exact ⟨by omega, (sees_mem hl hn (by omega) _).2 h⟩
    · rintro ⟨h1, h2⟩
      exact (sees_mem hl hn h1 _).1 h2
theorem sees_in {V : Nat → Nat} {l : List IPair} {n : Nat} (hl : Is V l) (hn : n ≤ 64) (hin : PairsIn n l) : allInB n (seesL V n) = true := by
  refine allIn_yes fun i hi j hj => ?_
  rw [seesL_len] at hi
  have hm := mem_getI hj
  have h1 := (sees_mem hl hn hi _).1 hm
  have h2 := hin _ _ h1
  obtain ⟨x, y, e1, e2, hx, hy, _⟩ := (hasR_iff _ _ _).1 ((hl.mem _ _).1 h1)
  unfold inB
  rw [decide_eq_true (by rw [e1]; omega), decide_eq_true h2.1]
  rfl
theorem acc_tell {a : Int} {n : Nat} {fb sb tb rb : Nat → Nat → Bool} {S T F R V : Nat → Nat} {f : Int → Option Nat} {rs : Nat → List (Int × Int)} {wk : Nat → Int → Bool} {snd : Bool} {row : List Int} {l : List IPair} (hb : Bts n fb sb tb rb S T F R) (okS : RelOK S) (okT : RelOK T) (hl : Is V l) (hin : PairsIn n l) (hW : ∀ x, x < n → ∀ key, ((f key).getD 0).testBit x = wk x key) :
    accB a n S T R f rs snd row (seesL V n) = holdD a n sb tb rb rs wk snd row l := by
  have hn := hb.hn
  unfold accB
  rw [seesL_len, decide_eq_true rfl, Bool.true_and, sees_in hl hn hin, Bool.true_and, holdD_is hb okS okT (visTo_ok _ _) (vis_is hl hn hin) hW]
theorem listS_rise (s : Nat) : (listS s).Pairwise (· < ·) := by
  unfold listS
  rw [List.pairwise_map]
  have : (Bits.list s).Pairwise (· < ·) := by
    unfold Bits.list
    exact List.Pairwise.filter _ List.pairwise_lt_range
  exact this.imp fun h => by omega
theorem listS_next (s k : Nat) (hk : k + 1 < (listS s).length) : (listS s).getD k 0 < (listS s).getD (k + 1) 0 := by
  have h := List.pairwise_iff_getElem.1 (listS_rise s) k (k + 1) (by omega) hk (by omega)
  rw [List.getD_eq_getElem?_getD, List.getD_eq_getElem?_getD, List.getElem?_eq_getElem (show k < _ by omega), List.getElem?_eq_getElem hk]
  exact h
end Go.Proofs.YtlhfpnkfapghoaaDoor
end

section
/- The reference's sets, number by number, come to plain sets. No condition but each theorem's own. -/
set_option linter.unusedVariables false
set_option linter.unusedSimpArgs false
namespace Go.Proofs.YtlhfpnkfapghoaaDoor
open Go.RowKit
namespace Ref01
def hasL (l : List Int) (n : Int) : Bool := l.any fun x => x == n
theorem any_take_succ (l : List Int) (p : Int → Bool) (k : Nat) (h : k < l.length) : (l.take (k + 1)).any p = ((l.take k).any p || p (l.getD k 0)) := by
  rw [List.take_add_one, List.any_append, List.getElem?_eq_getElem h]
  simp [List.getD_eq_getElem?_getD, h]
theorem all_take_succ (l : List Int) (p : Int → Bool) (k : Nat) (h : k < l.length) : (l.take (k + 1)).all p = ((l.take k).all p && p (l.getD k 0)) := by
  rw [List.take_add_one, List.all_append, List.getElem?_eq_getElem h]
  simp [List.getD_eq_getElem?_getD, h]
theorem any_of_at (l : List Int) (p : Int → Bool) (k : Nat) (h : k < l.length) (hp : p (l.getD k 0) = true) : l.any p = true := by
  rw [List.any_eq_true]
  exact ⟨l.getD k 0, by rw [List.getD_eq_getElem?_getD, List.getElem?_eq_getElem h]; exact List.getElem_mem h, hp⟩
theorem all_of_at (l : List Int) (p : Int → Bool) (k : Nat) (h : k < l.length) (hp : p (l.getD k 0) = false) : l.all p = false := by
  rw [List.all_eq_false]
  exact ⟨l.getD k 0, by rw [List.getD_eq_getElem?_getD, List.getElem?_eq_getElem h]; exact List.getElem_mem h, by rw [hp]; decide⟩

theorem has_ref01 (v : Value) (l : List Int) (n : Int) (w : World) (hl : Ints w v l) : Calls Tryd.prog 129 #[v, .int .i64 n] w fun e w' => e = .returned (.bool (hasL l n)) ∧ w = w' := by
  obtain ⟨A, c, rfl⟩ := hl.shape
  obtain ⟨_, hlen, hcells⟩ := hl.at
  clear hl
  have HC := Lib.hid hcells
  clear hcells
  go_enter Tryd.func129, Tryd.ntmps129
  go_wp2_with fail
  go_loop [5] (fun q => ∃ k : Nat, q = .int .i64 k ∧ k ≤ l.length ∧ Hid ((l.take k).any (fun x => x == n) = false)) (fun q => l.length - (intOf q).toNat)
  case atStart => exact ⟨0, rfl, by omega, Lib.hid rfl⟩
  case round =>
    obtain ⟨k, rfl, hk, hn⟩ := hrel
    by_cases hlt : k < l.length
    · obtain ⟨ad, rfl, hx⟩ := HC.out k hlt
      have HS := Lib.hid (any_take_succ l (fun x => x == n) k hlt)
      have HA := Lib.hid (any_of_at l (fun x => x == n) k hlt)
      generalize l.getD k 0 = z at hx HS HA
      cases he : z == n
      · have hn2 : Hid ((l.take (k + 1)).any (fun x => x == n) = false) := by show _ = _; rw [HS.out, hn.out]; exact he
        clear HC
        go_wp2_with fail
        go_round
        case rel => exact ⟨k + 1, by go_num, by omega, hn2⟩
        case measure => simp [intOf]; omega
      · clear HC
        go_wp2_with fail
        go_ret
        exact ⟨ret_bool (HA.out he).symm, rfl⟩
    · clear HC
      go_wp2_with fail
      go_ret
      refine ⟨ret_bool ?_, rfl⟩
      have := hn.out
      rw [List.take_of_length_le (by omega)] at this
      exact this.symm

theorem same_step (a b : List Int) (hl : a.length = b.length) (k : Nat) (hk : k < a.length) (hp : a.take k = b.take k) (he : a.getD k 0 = b.getD k 0) : a.take (k + 1) = b.take (k + 1) := by
  rw [List.take_add_one, List.take_add_one, hp, List.getElem?_eq_getElem hk, List.getElem?_eq_getElem (hl ▸ hk)]
  rw [List.getD_eq_getElem?_getD, List.getD_eq_getElem?_getD, List.getElem?_eq_getElem hk, List.getElem?_eq_getElem (hl ▸ hk)] at he
  simp at he
  rw [he]
theorem same_ref01 (v u : Value) (a b : List Int) (w : World) (ha : Ints w v a) (hb : Ints w u b) : Calls Tryd.prog 66 #[v, u] w fun e w' => e = .returned (.bool (decide (a = b))) ∧ Dr w w' := by
  obtain ⟨A, c, rfl⟩ := ha.shape
  obtain ⟨_, hlen, hcells⟩ := ha.at
  obtain ⟨B, d, rfl⟩ := hb.shape
  obtain ⟨_, hlenb, hcellsb⟩ := hb.at
  clear ha hb
  have HA := Lib.hid hcells
  have HB := Lib.hid hcellsb
  clear hcells hcellsb
  by_cases hl : a.length = b.length
  · have HL := Lib.hid hl
    have hl1 : a.length ≤ b.length := by omega
    have hl2 : b.length ≤ a.length := by omega
    have hne : ((a.length : Int) != (b.length : Int)) = false := by simp [hl]
    clear hl
    go_enter Tryd.func66, Tryd.ntmps66
    go_wp2_with fail
    go_loopw [5] (fun q wr => ∃ k : Nat, q = .int .i64 k ∧ k ≤ a.length ∧ Hid (a.take k = b.take k) ∧ Dr w wr) (fun q _ => a.length - (intOf q).toNat)
    case atStart => exact ⟨0, rfl, by omega, Lib.hid rfl, Dr.refl _⟩
    case round =>
      obtain ⟨k, rfl, hk, hn, hw⟩ := hrel
      by_cases hlt : k < a.length
      · obtain ⟨ad, rfl, hx⟩ := HA.out k hlt
        obtain ⟨bd, rfl, hy⟩ := HB.out k (by omega)
        replace hx := hw.cell hx
        replace hy := hw.cell hy
        have hkb : (k : Int) < (b.length : Int) := by omega
        have hka : (k : Int) < (a.length : Int) := by omega
        have HS := Lib.hid (same_step a b HL.out k hlt hn.out)
        have HD : Hid (a = b → a.getD k 0 = b.getD k 0) := Lib.hid (fun e => by rw [e])
        generalize a.getD k 0 = x at hx HS HD
        generalize b.getD k 0 = y at hy HS HD
        by_cases he : x = y
        · have hb1 : (x != y) = false := by simp [he]
          have hn2 := Lib.hid (HS.out he)
          clear he
          go_wp2_with fail
          go_quiet (fail)
          go_wp2_with fail
          go_roundw
          case rel => exact ⟨k + 1, by go_num, by omega, hn2, hw.step _⟩
          case measure => simp [intOf]; omega
        · have hb1 : (x != y) = true := by simp [he]
          have HE := Lib.hid he
          clear he
          go_wp2_with fail
          go_quiet (fail)
          go_wp2_with fail
          go_ret
          exact ⟨ret_bool (decide_eq_false (fun e => HE.out (HD.out e))).symm, hw.step _⟩
      · go_wp2_with fail
        go_ret
        refine ⟨ret_bool ?_, hw⟩
        have h1 := hn.out
        rw [List.take_of_length_le (by omega), List.take_of_length_le (by omega)] at h1
        exact (decide_eq_true h1).symm
  · have hne : ((a.length : Int) != (b.length : Int)) = true := by simp [bne_iff_ne]; omega
    have HL := Lib.hid hl
    clear hl
    go_enter Tryd.func66, Tryd.ntmps66
    go_wp2_with fail
    go_ret
    exact ⟨ret_bool (decide_eq_false (fun e => HL.out (by rw [e]))).symm, Dr.refl _⟩

/-- A set by definition, from the greatest number on. -/
def bn (p : Nat → Bool) : Nat → Nat
  | 0 => 0
  | d + 1 => 2 * bn p d + if p (63 - d) then 1 else 0
theorem bn_lt (p : Nat → Bool) (d : Nat) : bn p d < 2 ^ d := by
  induction d with
  | zero => exact Nat.zero_lt_one
  | succ d ih =>
    rw [Nat.pow_succ]
    show 2 * bn p d + (if p (63 - d) then 1 else 0) < _
    split <;> omega
theorem bn_bit (p : Nat → Bool) (d : Nat) (hd : d ≤ 64) : ∀ j, (bn p d).testBit j = (decide (j < d) && p (64 - d + j)) := by
  induction d with
  | zero => intro j; simp [bn]
  | succ d ih =>
    intro j
    show (2 * bn p d + if p (63 - d) then 1 else 0).testBit j = _
    cases j with
    | zero =>
      rw [Nat.testBit_zero, show 64 - (d + 1) + 0 = 63 - d from by omega]
      cases hp : p (63 - d) <;> simp <;> omega
    | succ j =>
      rw [Nat.testBit_succ, show (2 * bn p d + if p (63 - d) then 1 else 0) / 2 = bn p d from by split <;> omega, ih (by omega) j, show 64 - d + j = 64 - (d + 1) + (j + 1) from by omega]
      congr 1
      exact decide_eq_decide.2 (by omega)
def ofRef (l : List Int) : Nat := bn (fun i => hasL l i) 64
theorem ofRef_bit (l : List Int) (j : Nat) : (ofRef l).testBit j = (decide (j < 64) && hasL l j) := by
  unfold ofRef; rw [bn_bit _ 64 (Nat.le_refl _)]; simp
theorem of_ref01 (v : Value) (l : List Int) (w : World) (hl : Ints w v l) : Calls Tryd.prog 100 #[v] w fun e w' => e = .returned (.int .u64 (ofRef l)) ∧ w = w' := by
  have HL := Lib.hid hl
  clear hl
  go_enter Tryd.func100, Tryd.ntmps100
  go_wp2_with fail
  go_loop [3, 4] (fun x q => ∃ (d : Nat) (i y : Int), q = .int .i64 i ∧ i = 63 - d ∧ d ≤ 64 ∧ x = .int .u64 y ∧ Hid (y = bn (fun i => hasL l i) d) ∧ 0 ≤ y ∧ y < 2 ^ d) (fun _ q => (intOf q + 1).toNat)
  case atStart => exact ⟨0, 63, 0, rfl, rfl, by omega, rfl, Lib.hid rfl, by omega, by decide⟩
  case round =>
    obtain ⟨d, i, y, rfl, hi, hd, rfl, hy, hy0, hy1⟩ := hrel
    by_cases hlt : d < 64
    · have hpow : (2 : Int) ^ (d + 1) = 2 ^ d * 2 := Int.pow_succ 2 d
      have hle : (2 : Int) ^ (d + 1) ≤ 18446744073709551616 := by
        have : (2 : Nat) ^ (d + 1) ≤ 2 ^ 64 := Nat.pow_le_pow_right (by decide) (by omega)
        have h2 : (((2 : Nat) ^ (d + 1) : Nat) : Int) = (2 : Int) ^ (d + 1) := by rw [Int.natCast_pow]; rfl
        omega
      have hy2 : 0 ≤ y * 2 ∧ y * 2 + 1 < 2 ^ (d + 1) := by omega
      have hy3 : y * 2 + 1 < 18446744073709551616 := by omega
      have HI := Lib.hid hi
      have hi0 : 0 ≤ i := by omega
      have hi1 : i ≤ 63 := by omega
      have hyt : 0 ≤ y * 2 := by omega
      have hyl : y * 2 < 2 ^ (d + 1) := by omega
      have HB := Lib.hid (show bn (fun i => hasL l i) (d + 1) = 2 * bn (fun i => hasL l i) d + if hasL l i then 1 else 0 from by
        rw [show i = ((63 - d : Nat) : Int) from by omega]; rfl)
      have HY1 := Lib.hid hy2.2
      have HYL := Lib.hid hyl
      clear hi hpow hle hy1 hyl hy2
      go_wp2_with fail
      refine (has_ref01 _ l _ _ HL.out).mono ?_
      rintro e w1 ⟨rfl, rfl⟩
      cases hb : hasL l i
      · have hn := Lib.hid (show y * 2 = ((bn (fun i => hasL l i) (d + 1) : Nat) : Int) from by rw [HB.out, hb, hy.out]; simp; omega)
        go_wp2_with fail
        go_round
        case rel => exact ⟨d + 1, i - 1, y * 2, rfl, by have := HI.out; omega, by omega, rfl, hn, hyt, HYL.out⟩
        case measure => simp [intOf]; omega
      · have hn := Lib.hid (show y * 2 + 1 = ((bn (fun i => hasL l i) (d + 1) : Nat) : Int) from by rw [HB.out, hb, hy.out]; simp; omega)
        go_wp2_with fail
        go_round
        case rel => exact ⟨d + 1, i - 1, y * 2 + 1, rfl, by have := HI.out; omega, by omega, rfl, hn, by omega, HY1.out⟩
        case measure => simp [intOf]; omega
    · obtain rfl : d = 64 := by omega
      have hi1 : i < 0 := by omega
      clear hi hy1
      go_wp2_with fail
      go_ret
      exact ⟨ret_int (by rw [hy.out]; rfl), rfl⟩

/-- The list of the first k numbers for which p holds. -/
def upto (p : Nat → Bool) (k : Nat) : List Int := ((List.range k).filter p).map fun i : Nat => (i : Int)
theorem upto_succ (p : Nat → Bool) (k : Nat) : upto p (k + 1) = upto p k ++ if p k then [(k : Int)] else [] := by
  unfold upto
  rw [List.range_succ, List.filter_append, List.map_append]
  cases h : p k <;> simp [h]
theorem upto_le (p : Nat → Bool) (k : Nat) : (upto p k).length ≤ k := by
  unfold upto
  rw [List.length_map]
  have := List.length_filter_le p (List.range k)
  simpa using this
end Ref01
end Go.Proofs.YtlhfpnkfapghoaaDoor
end

section
/- The law AxiomTells: an order, and what is seen, as it is told, is a witness of just those levels that are kept. No condition but each theorem's own. -/
set_option linter.unusedVariables false
set_option linter.unusedSimpArgs false
namespace Go.Proofs.YtlhfpnkfapghoaaDoor
open Go.RowKit Go.Maps
attribute [local go_sem ↓] zero_rel

set_option maxRecDepth 100000 in
set_option maxHeartbeats 8000000 in
theorem law_axiomtells (w : World) (hT : Tab w) (v : Value) (hs : List Txr) (bv : Value) (zs : List Int) (sv : Value) (bs : List Bool) (mv : Value) (ps : List IPair) (hv : Txns w v hs) (hk : TxnsOk hs) (hL : LensOk hs) (hb : IntsK .u8 w bv zs) (hz : ∀ z ∈ zs, (Lit.int .u8 z).wf = true) (hbl : Bls w sv bs) (hps : Pairs w mv ps) (lv : Int) (hlv : -9223372036854775808 ≤ lv ∧ lv ≤ 9223372036854775807) :
    Calls Tryd.prog 13 #[.agg #[v, bv, sv, mv], .int .i64 lv] w fun e w' => e = .returned (.bool true) ∧ Below w.heap.size w w' := by
  have HTT := Lib.hid (fun (u : World) (hc : Ch nob w u) => hT.keep hc)
  have HSP := Lib.hid (fun (u : World) (hc : Ch nob w u) => speaks12 u (hT.keep hc))
  have HSM := Lib.hid (fun (u : World) (hc : Ch nob w u) => small_law11 u v hs (hv.keep hc) hL)
  have HOF := Lib.hid (fun (u : World) (hc : Ch nob w u) (h : smallZ hs = 1) => objY_order u v hs (hv.keep hc) hk (small_ok h).2.2.1 (small_ok h).2.1)
  have HDG := Lib.hid (fun (u : World) (hc : Ch nob w u) (h : smallZ hs = 1) (M : WM) (hM : histF hs hs.length = some M) => docG_of (hv.keep hc) (by have := (small_ok h).1; omega) (small_ok h).2.2.2 (small_ok h).2.2.1 hM)
  have HSO := Lib.hid (fun h => small_ok (hs := hs) h)
  have HO12 := Lib.hid (fun (u : World) (hc : Ch nob w u) (h7 : hs.length ≤ 7) => of_law12 u v hs bv zs sv bs mv ps (hv.keep hc) (hb.keep hc) hz (hbl.keep hc) (hps.keep hc) h7)
  obtain ⟨A, cp, rfl⟩ := hv.shape
  obtain ⟨MA, mc, rfl⟩ := hps.shape
  have hpl := hps.at.2.1
  have hp1 := Blk.new w #[.slice A hs.length cp, bv, sv, .slice MA ps.length mc] 27
  have hcP : Ch nob w (w.alloc (.cells #[.slice A hs.length cp, bv, sv, .slice MA ps.length mc] 27)) := (Ch.refl _ _).alloc _
  clear hT hv hk hL hb hz hbl hps
  go_enter Tryd.func13, Tryd.ntmps13
  go_wp2_with fail
  generalize w.alloc _ = w1 at hp1 hcP ⊢
  obtain ⟨g1, hg1⟩ : ∃ g, w.heap.size = g := ⟨_, rfl⟩
  rw [hg1] at hp1 ⊢
  clear hg1
  refine (HSP.out w1 hcP).mono ?_
  rintro e w2 ⟨rfl, hcA⟩
  have hp2 := hp1.ch hcA (fun h => h)
  have hc2 := hcP.seq hcA
  clear hp1 hcP hcA HSP
  have hq := hp2.cell (i := 0) (v := .slice A hs.length cp) rfl
  go_wp2_with fail
  clear hq
  refine (HSM.out w2 hc2).mono ?_
  rintro e w3 ⟨rfl, hcA⟩
  have hp3 := hp2.ch hcA (fun h => h)
  have hc3 := hc2.seq hcA
  clear hp2 hc2 hcA HSM
  have hq3 := hp3.cell (i := 3) (v := .slice MA ps.length mc) rfl
  rcases small_cases hs with h0 | h1
  · rw [h0]
    go_wp2_with fail
    go_ret
    exact ⟨rfl, hc3.below⟩
  · rw [h1]
    have H1 := Lib.hid h1
    clear h1
    by_cases h20 : 20 < ps.length
    · have hd : decide ((20 : Int) < (ps.length : Int)) = true := decide_eq_true (by omega)
      go_wp2_with fail
      go_ret
      exact ⟨rfl, hc3.below⟩
    · have hd : decide ((20 : Int) < (ps.length : Int)) = false := decide_eq_false (by omega)
      have hq := hp3.cell (i := 0) (v := .slice A hs.length cp) rfl
      clear h20
      go_wp2_with fail
      clear hq hq3
      refine (HOF.out w3 hc3 H1.out).mono ?_
      rintro e w4 ⟨go, M, S, T, F, R, rfl, hM, hY, hbt, hcA⟩
      have hp4 := hp3.ch hcA (fun h => h)
      have hc4 := hc3.seq hcA
      have HYY := Lib.hid (fun (u : World) (hc : Ch nob w4 u) => hY.keep hc)
      have HBT := Lib.hid hbt
      have HM := Lib.hid hM
      clear hp3 hc3 hcA HOF hY hbt hM
      go_wp2_with (refine wpList_load_rowG rfl 27 (.tmp 2) rfl g1 rfl 27 #[.slice A hs.length cp, bv, sv, .slice MA ps.length mc] (0, 0) _ hp4 rfl rfl (by kernel_rfl) ?_)
      refine (HO12.out w4 hc4 (HSO.out H1.out).1).mono ?_
      rintro e w5 ⟨rv, row, V, uv, l, rfl, hrow, hrok, okV, hIs, hpu, hcA⟩
      have hp5 := hp4.ch hcA (fun h => h)
      have hc5 := hc4.seq hcA
      have hc45 := hcA
      clear hp4 hcA HO12
      have hn7 := (HSO.out H1.out).1
      have hn64 : hs.length ≤ 64 := by omega
      have hmay := (HSO.out H1.out).2.2.1
      have okS := (HYY.out w4 (Ch.refl _ _)).obj.okS
      have okT := (HYY.out w4 (Ch.refl _ _)).obj.okT
      have hkr := keysR_of M hs hs.length
      have hWk := wF_wk hmay hn64
      have hll : l.length ≤ 1000000 := by have := hIs.le; omega
      have hrl6 : row.length ≤ 1000000 := by rw [hrok.len]; omega
      have hrl64 : row.length ≤ 64 := by rw [hrok.len]; omega
      have HDD := Lib.hid (fun (u : World) (hc : Ch nob w5 u) => HDG.out u (hc5.seq hc) H1.out M HM.out)
      have HHD := Lib.hid (fun (u : World) (hc : Ch nob w5 u) => holds_ref12 u (.slice A hs.length cp) rv uv hs.length _ _ _ _ _ _ _ lv row l (HDD.out u hc) (hrow.keep hc) (hpu.keep hc) hll)
      have HAC := Lib.hid (fun (u : World) (hc : Ch nob w5 u) (ov sv2 : Value) (ho : Ints u ov row) (hs2 : LLs u sv2 (seesL V row.length)) => accepts_axiom u go hs.length S T F R (wF hs hs.length) (rsAll M hs hs.length) (sdAll M hs hs.length) lv ov sv2 row (seesL V row.length) (HYY.out u (hc45.seq hc)) ho hrl6 hs2 hn64 (HTT.out u (hc5.seq hc)) hkr)
      have HWI := Lib.hid (fun (u : World) (hc : Ch nob w5 u) => witness_axiom u rv row V (hrow.keep hc) hrl64 okV (HTT.out u (hc5.seq hc)))
      have EQ := Lib.hid (fun (h : PairsIn hs.length l) => acc_tell (a := lv) (f := wF hs hs.length) (rs := rsAll M hs hs.length) (snd := sdAll M hs hs.length) (row := row) HBT.out okS okT hIs h hWk)
      have HME := Lib.hid (fun (i : Nat) (hi : i < hs.length) (x : Int) (hx : x ∈ (seesL V hs.length).getD i []) => (hasP_iff _ _ _).2 ((sees_mem hIs hn64 hi x).1 hx))
      have HSE := Lib.hid (fun (i : Nat) (hi : i < hs.length) => seesL_at V hs.length i hi)
      have hseesl := seesL_len V hs.length
      have HPU := Lib.hid (fun (u : World) (hc : Ch nob w5 u) => hpu.keep hc)
      have HRO := Lib.hid (fun (u : World) (hc : Ch nob w5 u) => hrow.keep hc)
      have hrl := hrok.len
      rw [hrl] at HAC HWI
      obtain ⟨ZD, hZD⟩ : ∃ b, holdD lv hs.length (sesB hs) (timeB hs) (rivB hs) (rsAll M hs hs.length) (wkB hs) (sdAll M hs hs.length) row l = b := ⟨_, rfl⟩
      rw [hZD] at HHD EQ
      obtain ⟨ZA, hZA⟩ : ∃ b, accB lv hs.length S T R (wF hs hs.length) (rsAll M hs hs.length) (sdAll M hs hs.length) row (seesL V hs.length) = b := ⟨_, rfl⟩
      rw [hZA] at HAC EQ
      obtain ⟨PA, pc, rfl⟩ := hpu.shape
      obtain ⟨RA, rc, rfl⟩ := hrow.shape
      obtain ⟨sl, hsl⟩ : ∃ s, seesL V hs.length = s := ⟨_, rfl⟩
      rw [hsl] at HAC HWI HME HSE hseesl
      obtain ⟨n, hn⟩ : ∃ n, hs.length = n := ⟨_, rfl⟩
      rw [hn] at hseesl HME HSE EQ hrl hn7 hp5 HHD
      rw [hn]
      rw [hrl] at HWI HHD HRO ⊢
      clear hrow hrok hpu hkr hWk hmay hrl6 hrl64 okS okT HBT HM HYY HDG HDD hIs hZD hZA hsl hn64
      have hn6 := Blk.new w5 (relArr fun _ => 0) 40
      obtain ⟨h6, hcB⟩ := new_row w5 (relArr fun _ => 0) (relArr V) 40
      have hp6 := hp5.ch hcB (fun h => h)
      clear hp5
      go_wp2_with (refine wpList_store_row rfl 40 (.tmp 8) (.tmp 45) rfl w5.heap.size (relArr V) rfl rfl 40 _ hn6 (by rw [relArr_size]; kernel_rfl) (by rw [relArr_size, relArr_size]) (relArr_cells _) ?_)
      generalize (w5.alloc _).setRow _ _ = w6 at h6 hp6 hcB ⊢
      obtain ⟨g6, hg6⟩ : ∃ g, w5.heap.size = g := ⟨_, rfl⟩
      rw [hg6] at h6 ⊢
      clear hg6 hn6
      have hpl6 := (HPU.out _ (Ch.refl _ _)).at.2.1
      have HPC := Lib.hid (fun (u : World) (hc : Ch nob w5 u) => (HPU.out u hc).at.2.2)
      have HRN := Lib.hid hrl
      clear hrl
      go_loopw [49] (fun q wr => ∃ j : Nat, q = .int .i64 j ∧ j ≤ l.length ∧ Hid (∀ c, c < j → (l.getD c (0, 0)).1 < n ∧ (l.getD c (0, 0)).2 < n) ∧ Blk wr g6 (relArr V) 40 ∧ Blk wr g1 #[.slice A n cp, bv, sv, .slice MA ps.length mc] 27 ∧ Ch nob w5 wr) (fun q _ => l.length - (intOf q).toNat)
      case atStart => exact ⟨0, rfl, by omega, Lib.hid (fun c hc => by omega), h6, hp6, hcB⟩
      case round =>
        clear h6 hp6 hcB
        obtain ⟨j, rfl, hj, hst, h6, hp, hc⟩ := hrel
        by_cases hlt : j < l.length
        · have hd2 : decide ((j : Int) < (l.length : Int)) = true := decide_eq_true (by omega)
          obtain ⟨ad, rfl, hx1, hx2⟩ := HPC.out _ hc j hlt
          have hnx := Lib.hid (fun (h : (l.getD j (0, 0)).1 < n ∧ (l.getD j (0, 0)).2 < n) => (Lib.hid (fun c hc => by
            by_cases e : c = j
            · rw [e]; exact h
            · exact hst.out c (by omega)) : Hid (∀ c, c < j + 1 → (l.getD c (0, 0)).1 < n ∧ (l.getD c (0, 0)).2 < n)))
          obtain ⟨p, hpp⟩ : ∃ p, l.getD j (0, 0) = p := ⟨_, rfl⟩
          rw [hpp] at hx1 hx2 hnx
          obtain ⟨a, b⟩ := p
          clear hpp hst
          dsimp only at hx1 hx2 hnx
          have h62 := h6.alloc (.cells #[.int .i64 a, .int .i64 b] 66)
          have hp2 := hp.alloc (.cells #[.int .i64 a, .int .i64 b] 66)
          have hc2 := hc.alloc (.cells #[.int .i64 a, .int .i64 b] 66)
          have hb2 := Blk.new wr #[.int .i64 a, .int .i64 b] 66
          have hy1 := hb2.cell (i := 0) (v := .int .i64 a) rfl
          have hy2 := hb2.cell (i := 1) (v := .int .i64 b) rfl
          clear h6 hp hc hb2
          by_cases hA : a < (n : Int)
          · have e1 : decide ((n : Int) ≤ a) = false := decide_eq_false (by omega)
            by_cases hB : b < (n : Int)
            · have e2 : decide ((n : Int) ≤ b) = false := decide_eq_false (by omega)
              have hh := hnx.out ⟨hA, hB⟩
              clear hA hB
              go_wp2_with fail
              go_roundw
              case rel => exact ⟨j + 1, by go_num, by omega, hh, h62, hp2, hc2⟩
              case measure => simp [intOf]; omega
            · have e2 : decide ((n : Int) ≤ b) = true := decide_eq_true (by omega)
              have hend := hc5.seq hc2
              clear hA hB
              go_wp2_with fail
              go_ret
              exact ⟨rfl, hend.below⟩
          · have e1 : decide ((n : Int) ≤ a) = true := decide_eq_true (by omega)
            have hend := hc5.seq hc2
            clear hA
            go_wp2_with fail
            go_ret
            exact ⟨rfl, hend.below⟩
        · obtain rfl : j = l.length := by omega
          have hd2 : decide ((l.length : Int) < (l.length : Int)) = false := by simp
          have hin : PairsIn n l := fun a b hm => by
            obtain ⟨c, hc1, hc2⟩ := List.getElem_of_mem hm
            have := hst.out c hc1
            rw [List.getD_eq_getElem?_getD, List.getElem?_eq_getElem hc1, Option.getD_some, hc2] at this
            exact this
          have hZZ : ZA = ZD := EQ.out hin
          subst hZZ
          clear hst hin EQ
          go_wp2_with (refine wpList_load_rowG rfl 40 (.tmp 8) rfl g6 rfl 40 (relArr V) (0, 0) _ h6 rfl rfl (by rw [relArr_size]; kernel_rfl) ?_)
          refine (HWI.out _ hc).mono ?_
          rintro e w7 ⟨ov, sv2, rfl, hov, hsv, hcA⟩
          have hp7 := hp.ch hcA (fun h => h)
          have hc7 := hc.seq hcA
          clear h6 hp hc hcA HWI
          obtain ⟨OA, oc, rfl⟩ := hov.shape
          obtain ⟨SA, sc, rfl⟩ := hsv.shape
          rw [HRN.out] at hov ⊢
          rw [hseesl] at hsv ⊢
          have h12 := Blk.new w7 #[.slice OA n oc, .slice SA n sc] 85
          have hp8 := hp7.alloc (.cells #[.slice OA n oc, .slice SA n sc] 85)
          have hcN : Ch nob w7 (w7.alloc (.cells #[.slice OA n oc, .slice SA n sc] 85)) := (Ch.refl _ _).alloc _
          have hc8 := hc7.seq hcN
          have hov8 := hov.keep hcN
          have hsv8 := hsv.keep hcN
          clear hp7 hc7 hcN hov hsv
          go_wp2_with fail
          generalize w7.alloc _ = w8 at h12 hp8 hc8 hov8 hsv8 ⊢
          obtain ⟨g12, hg12⟩ : ∃ g, w7.heap.size = g := ⟨_, rfl⟩
          rw [hg12] at h12 ⊢
          clear hg12
          have X0 := fun u : Ext w8 => Ext.cell (hp8.cell (i := 0) (v := .slice A n cp) rfl) u
          have X1 := fun u : Ext w8 => Ext.cell (h12.cell (i := 0) (v := .slice OA n oc) rfl) u
          have X2 := fun u : Ext w8 => Ext.cell (h12.cell (i := 1) (v := .slice SA n sc) rfl) u
          have c1 := Lib.hid (fun (u : Ext w8) => ext_of ((Ref01.same_ref01 _ _ row row u.val (hov8.keep u.ch) (HRO.out u.val (hc8.seq u.ch))).mono (fun e w' h => (⟨h.1.trans (by rw [decide_eq_true rfl]), h.2.ch⟩ : e = .returned (.bool true) ∧ Ch nob u.val w'))))
          have c2 := Lib.hid (fun (u : Ext w8) => ext_of (HAC.out u.val (hc8.seq u.ch) _ _ (hov8.keep u.ch) (hsv8.keep u.ch)))
          have c3 := Lib.hid (fun (u : Ext w8) => ext_of (HHD.out u.val (hc8.seq u.ch)))
          have hbb : (ZA != ZA) = false := bne_self_eq_false ZA
          have hnn : ((n : Int) != (n : Int)) = false := bne_self_eq_false _
          refine wp_region_ch (w0 := w8) (by kernel_rfl) (by kernel_rfl) (Ch.refl _ _) ?_
          repeat (first
            | (go_big_quiet_want; refine quiet_load_row 85 (.tmp 12) rfl g12 rfl 85 #[.slice OA n oc, .slice SA n sc] (by rintro _ ⟨u, rfl⟩; exact Ext.blk h12 u) _ rfl rfl (by kernel_rfl) ?_; simp only [Act.put, List.setIfInBounds_toArray, List.set_cons_succ, List.set_cons_zero]; go_big_quiet_on)
            | go_big_quiet_step (first | (go_at_call 66; exact c1.out _) | (go_at_call 59; exact c2.out _) | (go_at_call 55; exact c3.out _)))
          refine wpQuiet_nil ?_
          rintro wq ⟨⟨wq2, hcq⟩, hwq⟩
          obtain rfl : wq = wq2 := hwq
          have h12q := h12.ch hcq (fun h => h)
          have hc9 := hc8.seq hcq
          have hsv9 := hsv8.keep hcq
          have HLT := Lib.hid (fun (u : World) (hc : Ch nob wq u) => (hsv9.keep hc).at.2.2)
          have hz1 := h12q.cell (i := 1) (v := .slice SA n sc) rfl
          have hcr := Ch.refl nob wq
          clear h12 hp8 hc8 hov8 hsv8 hcq X0 X1 X2 c1 c2 c3 HAC HHD HRO hsv9 h12q hbb
          go_wp2_with fail
          clear hz1
          go_loopw [98] (fun q wr => ∃ i : Nat, q = .int .i64 i ∧ i ≤ n ∧ Ch nob wq wr) (fun q _ => n - (intOf q).toNat)
          case atStart => exact ⟨0, rfl, by omega, hcr⟩
          case round =>
            clear hcr
            obtain ⟨i, rfl, hi, hc⟩ := hrel
            by_cases hlt : i < n
            · have hd3 : decide ((i : Int) < (n : Int)) = true := decide_eq_true (by omega)
              obtain ⟨ad, u, rfl, hx, hu⟩ := HLT.out _ hc i (by rw [hseesl]; exact hlt)
              have HM2 := Lib.hid (HME.out i hlt)
              have HNX := Lib.hid (fun (k : Nat) (hk : k + 1 < (sl.getD i []).length) => show (sl.getD i []).getD k 0 < (sl.getD i []).getD (k + 1) 0 from by
                have e := HSE.out i hlt
                rw [e] at hk ⊢
                exact listS_next _ k hk)
              obtain ⟨s, hs⟩ : ∃ s, sl.getD i [] = s := ⟨_, rfl⟩
              rw [hs] at hu HM2 HNX
              obtain ⟨UA, uc, rfl⟩ := hu.shape
              have hul := hu.at.2.1
              have HU := Lib.hid (fun (v : World) (hc : Ch nob wr v) => (hu.keep hc).at.2.2)
              have hcR := Ch.refl nob wr
              clear hs hu
              go_wp2_with fail
              clear hx
              go_loopw [105] (fun q wv => ∃ k : Nat, q = .int .i64 k ∧ k ≤ s.length ∧ Ch nob wr wv) (fun q _ => s.length - (intOf q).toNat)
              case atStart => exact ⟨0, rfl, by omega, hcR⟩
              case round =>
                clear hcR
                obtain ⟨k, rfl, hk, hcv⟩ := hrel
                by_cases hlt2 : k < s.length
                · have hd4 : decide ((k : Int) < (s.length : Int)) = true := decide_eq_true (by omega)
                  obtain ⟨bd, rfl, hy⟩ := HU.out _ hcv k hlt2
                  have hmem := HM2.out _ (mem_getI hlt2)
                  have hpv := HPU.out _ (hc9.seq (hc.seq hcv))
                  have c1 := Lib.hid (has_ref02 _ l (s.getD k 0) (i : Int) _ hpv)
                  rw [hmem] at c1
                  rcases Nat.eq_zero_or_pos k with hk0 | hk0
                  · have e1 : decide (0 < k) = false := decide_eq_false (by omega)
                    obtain ⟨x, hx⟩ : ∃ x, s.getD k 0 = x := ⟨_, rfl⟩
                    rw [hx] at hy c1
                    clear hx hmem hpv hk0
                    go_wp2_with fail
                    refine c1.out.mono ?_
                    rintro e _ ⟨rfl, rfl⟩
                    go_wp2_with fail
                    go_roundw
                    case rel => exact ⟨k + 1, by go_num, by omega, hcv⟩
                    case measure => simp [intOf]; omega
                  · obtain ⟨m, hmk⟩ : ∃ m, m + 1 = k := ⟨k - 1, by omega⟩
                    have hlt3 := HNX.out m (by omega)
                    rw [hmk] at hlt3
                    obtain ⟨bd2, he, hy0⟩ := HU.out _ hcv m (by omega)
                    obtain rfl : bd = bd2 := by simpa using he
                    obtain ⟨x, hx⟩ : ∃ x, s.getD k 0 = x := ⟨_, rfl⟩
                    obtain ⟨x0, hx0⟩ : ∃ x, s.getD m 0 = x := ⟨_, rfl⟩
                    rw [hx] at hy c1 hlt3
                    rw [hx0] at hy0 hlt3
                    have e1 : decide (0 < k) = true := decide_eq_true (by omega)
                    have e2 : decide (x ≤ x0) = false := decide_eq_false (by omega)
                    have e3 : IntKind.i64.wrap ((k : Int) - 1) = (m : Int) := by rw [IntWalk.i64_in _ (by omega)]; omega
                    have hm1 : (m : Int) < (s.length : Int) := by omega
                    clear hx hx0 hmem hpv he hlt3 hmk hk0
                    go_wp2_with fail
                    refine c1.out.mono ?_
                    rintro e _ ⟨rfl, rfl⟩
                    go_wp2_with fail
                    go_roundw
                    case rel => exact ⟨k + 1, by go_num, by omega, hcv⟩
                    case measure => simp [intOf]; omega
                · obtain rfl : k = s.length := by omega
                  have hd4 : decide ((s.length : Int) < (s.length : Int)) = false := by simp
                  have hc2 := hc.seq hcv
                  go_wp2_with fail
                  go_roundw
                  case rel => exact ⟨i + 1, by go_num, by omega, hc2⟩
                  case measure => simp [intOf]; omega
            · obtain rfl : i = n := by omega
              have hd3 : decide ((i : Int) < (i : Int)) = false := by simp
              have hend := hc5.seq (hc9.seq hc)
              go_wp2_with fail
              go_ret
              exact ⟨rfl, hend.below⟩
end Go.Proofs.YtlhfpnkfapghoaaDoor
end
