/- Texts of this claim, merged: OrdS OrdV Obj Spk11P. -/
import Derived.Test.YtlhfpnkfapghoaaDoorPk5
import Derived.Test.YtlhfpnkfapghoaaDoorPk6
import Derived.Test.YtlhfpnkfapghoaaDoorPk8
section
/- The order's law: one that reads what was overwritten (burgagelaw08.speaks). No condition but each theorem's own. -/
set_option linter.unusedVariables false
set_option linter.unusedSimpArgs false
namespace Go.Proofs.YtlhfpnkfapghoaaDoor
open Go.RowKit Go.Maps

/-- A relation is read out of the object. -/
theorem wpList_load_relG {w : World} {ops : Array Oper} {rest : List Oper} {o : Oper} {a : Act} {Q : Exit → Act → World → Prop} (hw : Region.wanted o (yielded ops a.tmps) = true) (x : Operand) (ho : o.op = .load 40 x)
    (g off : Nat) (hx : a.eval x = .pointer (some ⟨g, off, none⟩)) (R : Nat → Nat) (hc : w.rangeAt g off (relArr R).toList)
    (h : wpList Tryd.prog ops Q rest (a.put o.dst (.agg (relArr R))) w) : wpList Tryd.prog ops Q (o :: rest) a w :=
  wpList_wanted w hw fun K hK => wp_load_mid 40 x ho g off hx (relArr R).toList (.array 64 38) hc (by kernel_rfl) rfl (by rw [rel_len]; kernel_rfl) (hK _ _ (by simpa using h))
theorem row_cells {w : World} {base e n c i : Nat} {A : Option Addr} {xs : List Value} {u : Value} (h : w.ownsRow base e 1 (.slice A n c) n xs) (hi : i < n) (hu : xs[i]? = some u) : ∃ g, A = some ⟨g, 0, none⟩ ∧ w.cell? ⟨g, i, none⟩ = some u := by
  have h0 := h.2
  rcases h0 with ⟨hv, hn⟩ | ⟨g, cap, cur, hv, hb, hg, hle2, hcap, hsz, htake⟩
  · omega
  · simp only [Value.slice.injEq] at hv
    refine ⟨g, hv.1, ?_⟩
    have hc := World.ownsRow.cells h (g := g) (by rw [hv.1]; rfl)
    have := hc _ _ hu
    rw [own_add] at this
    exact this
theorem range_at (n i : Nat) (hi : i < n) (V : Nat → Value) : ((List.range n).map V)[i]? = some (V i) := by
  rw [List.getElem?_map, List.getElem?_range hi]; rfl
theorem opl_two {w : World} {g c : Nat} {x y : Opn} {T : TypeId} (hb : Blk w g #[.bool x.wr, .int .i64 x.key, .int .i64 x.val, .bool y.wr, .int .i64 y.key, .int .i64 y.val] T) (hc : 2 ≤ c) : Opl w (.slice (some ⟨g, 0, none⟩) 2 c) [x, y] := by
  refine ⟨_, _, rfl, ⟨hc, by simp⟩, fun _ => ⟨_, rfl, fun j hj => ?_⟩⟩
  obtain rfl | rfl : j = 0 ∨ j = 1 := by simp at hj; omega
  · exact ⟨hb.cell (i := 0) rfl, hb.cell (i := 1) rfl, hb.cell (i := 2) rfl⟩
  · exact ⟨hb.cell (i := 3) rfl, hb.cell (i := 4) rfl, hb.cell (i := 5) rfl⟩
def s8a : Txr := ⟨0, 1, 2, [⟨true, 0, 5⟩, ⟨true, 0, 6⟩]⟩
def s8b : Txr := ⟨1, 3, 4, [⟨false, 0, 5⟩]⟩
def s8c : Txr := ⟨1, 3, 4, [⟨false, 0, 6⟩]⟩
theorem s8_ok : TxnsOk [s8a, s8b] ∧ TxnsOk [s8a, s8c] := by
  have h1 : TxrOk s8a := ⟨⟨fun i hi => by
    obtain rfl | rfl : i = 0 ∨ i = 1 := by have : i < 2 := hi; omega
    · decide
    · decide, fun i hi => by
    obtain rfl | rfl : i = 0 ∨ i = 1 := by have : i < 2 := hi; omega
    · decide
    · decide⟩, by decide, by decide, by decide⟩
  have h2 : TxrOk s8b := ⟨⟨fun i hi => by
    obtain rfl : i = 0 := by have : i < 1 := hi; omega
    decide, fun i hi => by
    obtain rfl : i = 0 := by have : i < 1 := hi; omega
    decide⟩, by decide, by decide, by decide⟩
  have h3 : TxrOk s8c := ⟨⟨fun i hi => by
    obtain rfl : i = 0 := by have : i < 1 := hi; omega
    decide, fun i hi => by
    obtain rfl : i = 0 := by have : i < 1 := hi; omega
    decide⟩, by decide, by decide, by decide⟩
  constructor <;> intro i hi <;> simp at hi
  · obtain rfl | rfl : i = 0 ∨ i = 1 := by omega
    · exact h1
    · exact h2
  · obtain rfl | rfl : i = 0 ∨ i = 1 := by omega
    · exact h1
    · exact h3
theorem s8_may : mayH [s8a, s8b] = true ∧ mayH [s8a, s8c] = true ∧ bigB [s8a, s8b] = false ∧ bigB [s8a, s8c] = false := by decide +kernel
def wm8 : WM := markF (putW (putW (fun _ => none) 5 ⟨0, 0, false⟩) 6 ⟨0, 0, false⟩) (isLast [⟨true, 0, 5⟩, ⟨true, 0, 6⟩])
theorem s8_hist (x : Txr) (hx : x = s8b ∨ x = s8c) {M : WM} (h : histF [s8a, x] [s8a, x].length = some M) : M = markF wm8 (isLast x.ops) := by
  rcases hx with rfl | rfl
  · have : histF [s8a, s8b] 2 = some (markF wm8 (isLast s8b.ops)) := rfl
    rw [show [s8a, s8b].length = 2 from rfl, this] at h
    exact (Option.some.inj h).symm
  · have : histF [s8a, s8c] 2 = some (markF wm8 (isLast s8c.ops)) := rfl
    rw [show [s8a, s8c].length = 2 from rfl, this] at h
    exact (Option.some.inj h).symm
theorem s8_first {M : WM} (h : histF [s8a, s8b] [s8a, s8b].length = some M) : sdAll M [s8a, s8b] [s8a, s8b].length = false ∧ hasR (frAll M [s8a, s8b] [s8a, s8b].length) 0 1 = true := by
  have := s8_hist s8b (.inl rfl) h
  subst this
  constructor <;> decide +kernel
theorem s8_ses : hasR (pairsR (sesB [s8a, s8b]) [s8a, s8b].length) 0 1 = false ∧ hasR (pairsR (timeB [s8a, s8b]) [s8a, s8b].length) 0 1 = true := by decide +kernel
theorem s8_second {M : WM} (h : histF [s8a, s8c] [s8a, s8c].length = some M) : sdAll M [s8a, s8c] [s8a, s8c].length = true ∧ rsAll M [s8a, s8c] [s8a, s8c].length 1 = [(0, 0)] := by
  have := s8_hist s8c (.inr rfl) h
  subst this
  constructor <;> decide +kernel
theorem s8_wr : (wF [s8a, s8c] [s8a, s8c].length) 0 = some 1 := by decide +kernel
end Go.Proofs.YtlhfpnkfapghoaaDoor
end

section
/- The rivals of one, by the program (order.Rivals). No condition but each theorem's own. -/
set_option linter.unusedVariables false
set_option linter.unusedSimpArgs false
namespace Go.Proofs.YtlhfpnkfapghoaaDoor
open Go.RowKit Go.Maps

set_option maxRecDepth 100000 in
set_option maxHeartbeats 2000000 in
theorem rivals_order {w : World} {base go gm c n : Nat} {S T F : Nat → Nat} {f : Int → Option Nat} {A1 A2 : Option Addr} {c1 c2 : Nat} {KV RV : Nat → Value} {ks : Nat → List Int} {rs : Nat → List (Int × Int)} {snd : Bool}
    (h : Ords w base go gm c n S T F f A1 c1 A2 c2 KV RV ks rs snd) (hf : SetsOK f) (i : Nat) (hi : i < n) (hn : n ≤ 64) (hk : ∀ x ∈ ks i, 0 ≤ x ∧ x < 64) :
    Calls Tryd.prog 121 #[.pointer (some ⟨go, 0, none⟩), .int .i64 i] w fun e w' => e = .returned (.int .u64 (rivO f (ks i) (i : Int) : Nat)) ∧ Ch nob w w' := by
  have hx0 := ord_n h.blk
  have hx4 := ord_map h.blk
  have hx5 := ord_keys h.blk
  obtain ⟨g, rfl, hkv⟩ := row_cells h.krow hi (range_at n i hi KV)
  obtain ⟨A3, c3, hsh⟩ := (h.kv i hi).ints.shape
  have hints := (h.kv i hi).ints
  rw [hsh] at hkv hints
  have HR := Lib.hid (show rivO f (ks i) (i : Int) = withoutS (rivS f (ks i) (ks i).length) (i : Int) from rfl)
  have HLT := Lib.hid (rivS_lt hf (ks i))
  have HS := Lib.hid (fun j => show rivS f (ks i) (j + 1) = rivS f (ks i) j ||| (f ((ks i).getD j 0)).getD 0 from rfl)
  have HF := Lib.hid hf
  have hm := h.map
  obtain ⟨l, hl⟩ : ∃ l, ks i = l := ⟨_, rfl⟩
  rw [hl] at hkv hints HR HLT HS hk
  rw [hl]
  obtain ⟨q, hq⟩ : ∃ q, l.length = q := ⟨_, rfl⟩
  have hql : q ≤ 9223372036854775807 := by have := hints.at.2.1; rw [hq] at this; exact this
  have HQ := Lib.hid hq
  rw [hq] at hkv hints HR
  have HI := Lib.hid hints
  have HK := Lib.hid hk
  have HM := Lib.hid hm
  obtain ⟨R, hR⟩ : ∃ R, rivO f l (i : Int) = R := ⟨_, rfl⟩
  rw [hR] at HR ⊢
  have hd1 : decide ((i : Int) < 0) = false := decide_eq_false (by omega)
  have hd2 : decide (n ≤ i) = false := decide_eq_false (by omega)
  clear h hf hsh hl hq hints hk hm hR
  go_enter Tryd.func121, Tryd.ntmps121
  go_wp2_with fail
  go_loopw [26, 5] (fun x y wr => ∃ j : Nat, x = .int .i64 j ∧ j ≤ q ∧ y = .int .u64 (rivS f l j : Nat) ∧ Ch nob w wr) (fun x _ _ => q - (intOf x).toNat)
  case atStart => exact ⟨0, rfl, Nat.zero_le _, rfl, Ch.refl _ _⟩
  case round =>
    obtain ⟨j, rfl, hj, rfl, hc⟩ := hrel
    have hy0 := cell_keep hx0 hc
    have hy4 := cell_keep hx4 hc
    have hy5 := cell_keep hx5 hc
    by_cases hlt : j < q
    · have hd : decide ((j : Int) < (q : Int)) = true := decide_eq_true (by omega)
      obtain ⟨ad, rfl, hz⟩ := (HI.out.keep hc).at.2.2 j (by rw [HQ.out]; exact hlt)
      obtain ⟨x, hx⟩ : ∃ x, l.getD j 0 = x := ⟨_, rfl⟩
      have hxm : x ∈ l := by
        rw [← hx, List.getD_eq_getElem?_getD, List.getElem?_eq_getElem (by rw [HQ.out]; exact hlt)]
        exact List.getElem_mem _
      have hwf : (Lit.int .i64 x).wf = true := by
        have := HK.out x hxm
        simp [Lit.wf, IntKind.min, IntKind.max, IntKind.signed, IntKind.bits]
        omega
      rw [hx] at hz
      obtain ⟨s, hs⟩ : ∃ s, (f x).getD 0 = s := ⟨_, rfl⟩
      have hget : (setF f x).getD (.int .u64 0) = .int .u64 (s : Nat) := by rw [setF_get, hs]
      have hor := Bits.or_u64 (rivS f l j) s (HLT.out j) (by rw [← hs]; exact HF.out x)
      have hst : rivS f l (j + 1) = rivS f l j ||| s := by rw [HS.out, hx, hs]
      rw [← hst] at hor
      have hmw := HM.out.keep hc
      obtain ⟨r1, hr1⟩ : ∃ r, rivS f l j = r := ⟨_, rfl⟩
      obtain ⟨r2, hr2⟩ : ∃ r, rivS f l (j + 1) = r := ⟨_, rfl⟩
      have HR2 := Lib.hid hr2
      rw [hr1, hr2] at hor
      rw [hr1]
      have HGET := Lib.hid hget
      clear hx hxm hs hst hr1 hr2 hget
      go_wp2_with (at_lookup; refine wpList_imap_get _ rfl _ _ 107 rfl 3 38 under_int under_mset _ (zero_set _) _ _ _ rfl hmw _ rfl hwf ?_; rw [HGET.out])
      go_roundw
      case rel => exact ⟨j + 1, by go_num, by omega, (by rw [HR2.out]), hc⟩
      case measure => simp [intOf]; omega
    · have hd : decide ((j : Int) < (q : Int)) = false := decide_eq_false (by omega)
      obtain rfl : j = q := by omega
      have HW := Lib.hid (without_set (rivS f l j) (i : Int) wr (HLT.out j))
      rw [← HR.out] at HW
      go_wp2_with fail
      refine HW.out.mono ?_
      rintro e w2 ⟨rfl, rfl⟩
      go_wp2_with fail
      go_ret
      exact ⟨rfl, hc⟩
set_option maxHeartbeats 1000000 in
theorem rivals_out {w : World} {go : Nat} {n i : Int} (hx0 : w.cell? ⟨go, 0, none⟩ = some (.int .i64 n)) (hi : i < 0 ∨ n ≤ i) :
    Calls Tryd.prog 121 #[.pointer (some ⟨go, 0, none⟩), .int .i64 i] w fun e w' => e = .returned (.int .u64 0) ∧ Ch nob w w' := by
  by_cases h0 : i < 0
  · have hd1 : decide (i < 0) = true := decide_eq_true h0
    go_enter Tryd.func121, Tryd.ntmps121
    go_wp2_with fail
    go_ret
    exact ⟨rfl, Ch.refl _ _⟩
  · have hd1 : decide (i < 0) = false := decide_eq_false h0
    have hd2 : decide (n ≤ i) = true := decide_eq_true (by omega)
    go_enter Tryd.func121, Tryd.ntmps121
    go_wp2_with fail
    go_ret
    exact ⟨rfl, Ch.refl _ _⟩
end Go.Proofs.YtlhfpnkfapghoaaDoor
end

section
/- What follows of a history, as an object to be read: who comes ahead, of whom one reads, who writes to the same keys. No condition but each theorem's own. -/
set_option linter.unusedVariables false
set_option linter.unusedSimpArgs false
namespace Go.Proofs.YtlhfpnkfapghoaaDoor
open Go.RowKit Go.Maps

/-- The object, as it is read. -/
structure Obj (w : World) (go n : Nat) (S T F R : Nat → Nat) : Prop where
  ses : w.rangeAt go 1 (relArr S).toList
  tim : w.rangeAt go 65 (relArr T).toList
  frm : w.rangeAt go 129 (relArr F).toList
  num : w.cell? ⟨go, 0, none⟩ = some (.int .i64 n)
  okS : RelOK S
  okT : RelOK T
  okF : RelOK F
  okR : RelOK R
  riv : ∀ i : Nat, i < 64 → ∀ u, Ch nob w u → Calls Tryd.prog 121 #[.pointer (some ⟨go, 0, none⟩), .int .i64 i] u fun e w' => e = .returned (.int .u64 (R i : Nat)) ∧ Ch nob u w'
theorem Obj.keep {w w' : World} {go n : Nat} {S T F R : Nat → Nat} (h : Obj w go n S T F R) (hc : Ch nob w w') : Obj w' go n S T F R :=
  ⟨rangeAt_keep h.ses hc, rangeAt_keep h.tim hc, rangeAt_keep h.frm hc, cell_keep h.num hc, h.okS, h.okT, h.okF, h.okR, fun i hi u hu => h.riv i hi u (hc.seq hu)⟩
/-- Whoever's write is read is one of them. -/
theorem fromB_lt {hs : List Txr} {M : WM} (h : histF hs hs.length = some M) {i k : Nat} (hk : k < hs.length) (hb : fromB M hs i k = true) : i < hs.length := by
  unfold fromB at hb
  rw [List.any_eq_true] at hb
  obtain ⟨p, hp, he⟩ := hb
  have he : p.2 = (i : Int) := by simpa using he
  have key : ∀ j, p ∈ rdTo M k (rOf hs k) j → ∃ x : Opn, p.2 = fromOf M x := by
    intro j
    induction j with
    | zero => intro h; cases h
    | succ j ih =>
      intro h
      unfold rdTo at h
      rcases List.mem_append.1 h with h | h
      · exact ih h
      · split at h
        · cases h
        · rw [List.mem_singleton] at h
          exact ⟨_, by rw [h]⟩
  obtain ⟨x, hx⟩ := key _ hp
  rw [he] at hx
  unfold fromOf at hx
  split at hx
  · omega
  · cases hm : M x.val with
    | none =>
      rw [hm] at hx
      have : (i : Int) = 0 := hx
      omega
    | some y =>
      obtain ⟨t, ht, hy, _⟩ := (goodH h).wr _ _ hm
      rw [hm] at hx
      have : (i : Int) = y.txn := hx
      omega
/-- The rivals of each. -/
def rvR (hs : List Txr) (n : Nat) : Nat → Nat := fun i => if i < n then rivO (wF hs n) (kTo hs n 0 i) (i : Int) else 0
theorem rvR_ok (hs : List Txr) (n : Nat) : RelOK (rvR hs n) := fun i => by
  unfold rvR; split
  · exact rivO_lt (wF_ok hs n) _ _
  · decide
/-- What Of hands back for a history that may be, as it is read. -/
def ObjPost (w : World) (hs : List Txr) (e : Ending) (w' : World) : Prop :=
  ∃ (go : Nat) (M : WM) (S T F R : Nat → Nat), e = .returned (.tuple #[.pointer (some ⟨go, 0, none⟩), .int .i64 0]) ∧ histF hs hs.length = some M ∧ Obj w' go hs.length S T F R ∧ Bts hs.length (fromB M hs) (sesB hs) (timeB hs) (rivB hs) S T F R ∧ Ch nob w w'
theorem kTo_all {hs : List Txr} {n i : Nat} (hi : i < n) : kTo hs n 0 i = (wOf hs i).map Opn.key := by unfold kTo; rw [if_pos hi]
theorem obj_order (w : World) (v : Value) (hs : List Txr) (hv : Txns w v hs) (hk : TxnsOk hs) (hmy : mayH hs = true) (hbg : bigB hs = false) : Calls Tryd.prog 17 #[v] w (ObjPost w hs) := by
  have hbb := hbg
  unfold bigB at hbb
  rw [Bool.or_eq_false_iff, decide_eq_false_iff_not, decide_eq_false_iff_not] at hbb
  refine (of_order w v hs hv hk hmy hbg).mono ?_
  rintro e w' ⟨base, go, gm, c, A1, c1, A2, c2, KV, RV, M, rfl, hM, HO, hbs, hc⟩
  have hn : hs.length ≤ 64 := by omega
  refine ⟨go, M, _, _, _, rvR hs hs.length, rfl, hM, ⟨ord_session HO.blk, ord_time HO.blk, ord_from HO.blk, ord_n HO.blk, pairsR_ok _ _ hn, pairsR_ok _ _ hn, frAll_ok _ _ _, rvR_ok _ _, fun i hi u hu => ?_⟩, ⟨hn, fun i j hi hj => ?_, fun i j hi hj => ?_, fun i j hi hj => ?_, fun i j hi hj => ?_⟩, hc⟩
  · by_cases h : i < hs.length
    · have := rivals_order (HO.keep hu) (wF_ok hs hs.length) i h hn (fun x hx => by
        rw [kTo_all h] at hx
        obtain ⟨y, hy, rfl⟩ := List.mem_map.1 hx
        exact (wOf_mem hy).1)
      unfold rvR
      rw [if_pos h]
      exact this
    · have := rivals_out (go := go) (n := (hs.length : Int)) (i := (i : Int)) (cell_keep (ord_n HO.blk) hu) (.inr (by omega))
      unfold rvR
      rw [if_neg h]
      exact this
  · have h1 := frAll_bit M hs i j hi hj hs.length
    rw [hasR_nat _ _ _ hi hj] at h1
    show (frAll M hs hs.length i).testBit j = true ↔ _
    rw [h1, Bool.and_eq_true, decide_eq_true_iff]
    constructor
    · rintro ⟨a, b⟩
      refine ⟨fromB_lt hM a b, a, fun e => ?_, b⟩
      rw [e, fromB_self] at b; cases b
    · rintro ⟨_, a, _, b⟩; exact ⟨a, b⟩
  · constructor
    · intro h; exact pairs_testBit h
    · rintro ⟨a, b, c, d⟩; exact pairs_testBit2 a b c d
  · constructor
    · intro h; exact pairs_testBit h
    · rintro ⟨a, b, c, d⟩; exact pairs_testBit2 a b c d
  · have h1 := rivO_is (hs := hs) hmy hn hi hj
    rw [hasS_nat _ _ (by omega)] at h1
    show (rvR hs hs.length i).testBit j = true ↔ _
    unfold rvR
    rw [if_pos hi, kTo_all hi, h1]
end Go.Proofs.YtlhfpnkfapghoaaDoor
end

section
/- Plain law: three transactions, and what must be seen of them. No condition but each theorem's own. -/
set_option linter.unusedVariables false
set_option linter.unusedSimpArgs false
namespace Go.Proofs.YtlhfpnkfapghoaaDoor
open Go.RowKit Go.Maps

def s11a : Txr := ⟨0, 1, 6, [⟨true, 0, 1⟩]⟩
def s11b : Txr := ⟨1, 2, 5, [⟨true, 1, 2⟩]⟩
def s11c : Txr := ⟨2, 3, 4, [⟨false, 1, 2⟩]⟩
def s11 : List Txr := [s11a, s11b, s11c]
theorem s11_ok : TxnsOk s11 := by
  have one : ∀ (s b c : Int) (o : Opn), (Lit.int .i64 s).wf = true → (Lit.int .i64 b).wf = true → (Lit.int .i64 c).wf = true → (Lit.int .i64 o.key).wf = true → (Lit.int .i64 o.val).wf = true → TxrOk ⟨s, b, c, [o]⟩ := fun s b c o h1 h2 h3 h4 h5 =>
    ⟨⟨fun i hi => by
      obtain rfl : i = 0 := by have : i < 1 := hi; omega
      exact h4, fun i hi => by
      obtain rfl : i = 0 := by have : i < 1 := hi; omega
      exact h5⟩, h1, h2, h3⟩
  intro i hi
  have hi : i < 3 := hi
  obtain rfl | rfl | rfl : i = 0 ∨ i = 1 ∨ i = 2 := by omega
  · exact one _ _ _ _ (by decide) (by decide) (by decide) (by decide) (by decide)
  · exact one _ _ _ _ (by decide) (by decide) (by decide) (by decide) (by decide)
  · exact one _ _ _ _ (by decide) (by decide) (by decide) (by decide) (by decide)
theorem s11_may : mayH s11 = true ∧ bigB s11 = false := by decide +kernel
def M11 : WM := (histF s11 3).getD fun _ => none
theorem s11_some : histF s11 s11.length = some M11 := by
  have h : (histF s11 3).isSome = true := by decide +kernel
  obtain ⟨M, hM⟩ := Option.isSome_iff_exists.1 h
  show histF s11 3 = some M11
  unfold M11
  rw [hM]; rfl
theorem s11_hist {M : WM} (h : histF s11 s11.length = some M) : M = M11 := by
  rw [s11_some] at h
  exact (Option.some.inj h).symm
theorem s11_bits : ∀ i j : Fin 3, fromB M11 s11 i.val j.val = (decide (i.val = 1) && decide (j.val = 2)) ∧ sesB s11 i.val j.val = false ∧ timeB s11 i.val j.val = false := by decide +kernel
theorem s11_row : RowOK [0, 1, 2] 3 := ⟨rfl, by decide, by decide⟩
theorem s11_ah : ∀ i j : Fin 3, ahB [0, 1, 2] i.val j.val = decide (i.val < j.val) := by decide +kernel
section
variable {S T F R V : Nat → Nat}
theorem s11_chain (i j : Nat) (hi : i < 64) (hj : j < 64) : E (chainTo [0, 1, 2] 3) i j ↔ i < j ∧ j < 3 := by
  have h := s11_row.chain (by omega) i j hi hj
  have h' : E (chainTo [0, 1, 2] 3) i j ↔ i < 3 ∧ j < 3 ∧ ahB [0, 1, 2] i j = true := h
  rw [h']
  constructor
  · rintro ⟨a, b, c⟩
    have := s11_ah ⟨i, a⟩ ⟨j, b⟩
    rw [this, decide_eq_true_iff] at c
    exact ⟨c, b⟩
  · rintro ⟨a, b⟩
    refine ⟨by omega, b, ?_⟩
    have := s11_ah ⟨i, by omega⟩ ⟨j, b⟩
    rw [this, decide_eq_true_iff]
    exact a
theorem s11_must (x : Int) (hx : x = 4 ∨ x = 2) (h : Bts 3 (fromB M11 s11) (sesB s11) (timeB s11) (rivB s11) S T F R) (i j : Nat) (hi : i < 64) (hj : j < 64) : E (mustR x S T F R (chainTo [0, 1, 2] 3)) i j ↔ i = 1 ∧ j = 2 := by
  have hm := h.must s11_row x i j hi hj
  have hm' : E (mustR x S T F R (chainTo [0, 1, 2] 3)) i j ↔ i < 3 ∧ j < 3 ∧ i ≠ j ∧ musB (fromB M11 s11) (sesB s11) (timeB s11) (rivB s11) (six x : Nat) [0, 1, 2] i j = true := hm
  rw [hm', musB_iff]
  have q : hasI (six x : Nat) 1 = false ∧ hasI (six x : Nat) 32 = false ∧ hasI (six x : Nat) 16 = false ∧ hasI (six x : Nat) 8 = false := by
    rcases hx with rfl | rfl <;> decide
  rw [q.1, q.2.1, q.2.2.1, q.2.2.2]
  constructor
  · rintro ⟨a, b, c, d⟩
    have hb := (s11_bits ⟨i, a⟩ ⟨j, b⟩).1
    rcases d with d | d | d | d
    · rw [hb, Bool.and_eq_true, decide_eq_true_iff, decide_eq_true_iff] at d
      exact d
    · cases d.1
    · cases d.1
    · rcases d.2 with e | e
      · cases e
      · cases e.1
  · rintro ⟨rfl, rfl⟩
    exact ⟨by omega, by omega, by omega, .inl (by have := (s11_bits 1 2).1; exact this)⟩
theorem spk_pre (h : Bts 3 (fromB M11 s11) (sesB s11) (timeB s11) (rivB s11) S T F R) (hl : Lst 4 (chainTo [0, 1, 2] 3) (mustR 4 S T F R (chainTo [0, 1, 2] 3)) V) (hc : Clo 4 (chainTo [0, 1, 2] 3) (E V)) :
    ∀ i j, i < 64 → j < 64 → (E V i j ↔ i < 2 ∧ j = 2) := by
  have h12 : E V 1 2 := hl.sub 1 2 (by omega) (by omega) ((s11_must 4 (.inl rfl) h 1 2 (by omega) (by omega)).2 ⟨rfl, rfl⟩)
  have h02 : E V 0 2 := hc.pre (by decide) 0 1 2 (by omega) (by omega) (by omega) ((s11_chain 0 1 (by omega) (by omega)).2 ⟨by omega, by omega⟩) h12
  intro i j hi hj
  constructor
  · refine hl.least (fun i j => i < 2 ∧ j = 2) (fun i j hi hj he => ?_) ⟨fun h2 => absurd h2 (by decide), fun _ i j k hi hj hk e1 e2 => ?_⟩ i j hi hj
    · have := (s11_must 4 (.inl rfl) h i j hi hj).1 he
      omega
    · have := (s11_chain i j hi hj).1 e1
      exact ⟨by omega, e2.2⟩
  · rintro ⟨a, rfl⟩
    obtain rfl | rfl : i = 0 ∨ i = 1 := by omega
    · exact h02
    · exact h12
theorem spk_tra (h : Bts 3 (fromB M11 s11) (sesB s11) (timeB s11) (rivB s11) S T F R) (hl : Lst 2 (chainTo [0, 1, 2] 3) (mustR 2 S T F R (chainTo [0, 1, 2] 3)) V) :
    ∀ i j, i < 64 → j < 64 → (E V i j ↔ i = 1 ∧ j = 2) := by
  intro i j hi hj
  constructor
  · refine hl.least (fun i j => i = 1 ∧ j = 2) (fun i j hi hj he => (s11_must 2 (.inr rfl) h i j hi hj).1 he) ⟨fun _ i j k hi hj hk e1 e2 => ?_, fun h4 => absurd h4 (by decide)⟩ i j hi hj
    omega
  · rintro ⟨rfl, rfl⟩
    exact hl.sub 1 2 (by omega) (by omega) ((s11_must 2 (.inr rfl) h 1 2 (by omega) (by omega)).2 ⟨rfl, rfl⟩)
theorem spk_sees (ok : RelOK (turnTo V 64)) (h : ∀ i j, i < 64 → j < 64 → (E V i j ↔ i < 2 ∧ j = 2)) : turnTo V 64 2 = 3 :=
  Bits.ext64 (ok 2) (by decide) fun j hj => by
    have h1 : E (turnTo V 64) 2 j ↔ j < 2 := by
      rw [turned_bit _ _ _ (by omega) hj, h j 2 hj (by omega)]
      omega
    have h2 : (3 : Nat).testBit j = decide (j < 2) := by
      have : ∀ j : Fin 64, (3 : Nat).testBit j.val = decide (j.val < 2) := by decide +kernel
      exact this ⟨j, hj⟩
    rw [h2]
    by_cases e : j < 2
    · rw [decide_eq_true e]; exact h1.2 e
    · rw [decide_eq_false e]
      cases hb : (turnTo V 64 2).testBit j with
      | false => rfl
      | true => exact absurd (h1.1 hb) e
end
end Go.Proofs.YtlhfpnkfapghoaaDoor
end
