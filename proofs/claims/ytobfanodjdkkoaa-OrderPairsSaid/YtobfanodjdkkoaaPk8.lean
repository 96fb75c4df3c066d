/- Texts of this claim, merged: OrdS OrdV OrdX Ref01. -/
import Derived.Test.YtobfanodjdkkoaaPk4
import Derived.Test.YtobfanodjdkkoaaPk5
import Derived.Test.YtobfanodjdkkoaaPk7
section
/- The order's law: one that reads what was overwritten (burgagelaw08.speaks). No condition but each theorem's own. -/
set_option linter.unusedVariables false
set_option linter.unusedSimpArgs false
namespace Go.Proofs.Ytobfanodjdkkoaa
open Go.RowKit Go.Maps

/-- A relation is read out of the object. -/
theorem wpList_load_relG {w : World} {ops : Array Oper} {rest : List Oper} {o : Oper} {a : Act} {Q : Exit → Act → World → Prop} (hw : Region.wanted o (yielded ops a.tmps) = true) (x : Operand) (ho : o.op = .load 51 x)
    (g off : Nat) (hx : a.eval x = .pointer (some ⟨g, off, none⟩)) (R : Nat → Nat) (hc : w.rangeAt g off (relArr R).toList)
    (h : wpList Try.prog ops Q rest (a.put o.dst (.agg (relArr R))) w) : wpList Try.prog ops Q (o :: rest) a w :=
  wpList_wanted w hw fun K hK => wp_load_mid 51 x ho g off hx (relArr R).toList (.array 64 49) hc (by kernel_rfl) rfl (by rw [rel_len]; kernel_rfl) (hK _ _ (by simpa using h))
theorem row_cells {w : World} {base e n c i : Nat} {A : Option Addr} {xs : List Value} {u : Value} (h : w.ownsRow base e 1 (.slice A n c) n xs) (hi : i < n) (hu : xs[i]? = some u) : ∃ g, A = some ⟨g, 0, none⟩ ∧ w.cell? ⟨g, i, none⟩ = some u := by
  have h0 := h.2
  rcases h0 with ⟨hv, hn⟩ | ⟨g, cap, cur, hv, hb, hg, hle2, hcap, hsz, htake⟩
  · omega
  · simp only [Value.slice.injEq] at hv
    refine ⟨g, hv.1, ?_⟩
    have hc := World.ownsRow.cells h (g := g) (by rw [hv.1]; rfl)
    have := hc _ _ hu
    rw [own_add] at this
    exact this
theorem range_at (n i : Nat) (hi : i < n) (V : Nat → Value) : ((List.range n).map V)[i]? = some (V i) := by
  rw [List.getElem?_map, List.getElem?_range hi]; rfl
theorem opl_two {w : World} {g c : Nat} {x y : Opn} {T : TypeId} (hb : Blk w g #[.bool x.wr, .int .i64 x.key, .int .i64 x.val, .bool y.wr, .int .i64 y.key, .int .i64 y.val] T) (hc : 2 ≤ c) : Opl w (.slice (some ⟨g, 0, none⟩) 2 c) [x, y] := by
  refine ⟨_, _, rfl, ⟨hc, by simp⟩, fun _ => ⟨_, rfl, fun j hj => ?_⟩⟩
  obtain rfl | rfl : j = 0 ∨ j = 1 := by simp at hj; omega
  · exact ⟨hb.cell (i := 0) rfl, hb.cell (i := 1) rfl, hb.cell (i := 2) rfl⟩
  · exact ⟨hb.cell (i := 3) rfl, hb.cell (i := 4) rfl, hb.cell (i := 5) rfl⟩
def s8a : Txr := ⟨0, 1, 2, [⟨true, 0, 5⟩, ⟨true, 0, 6⟩]⟩
def s8b : Txr := ⟨1, 3, 4, [⟨false, 0, 5⟩]⟩
def s8c : Txr := ⟨1, 3, 4, [⟨false, 0, 6⟩]⟩
theorem s8_ok : TxnsOk [s8a, s8b] ∧ TxnsOk [s8a, s8c] := by
  have h1 : TxrOk s8a := ⟨⟨fun i hi => by
    obtain rfl | rfl : i = 0 ∨ i = 1 := by have : i < 2 := hi; omega
    · decide
    · decide, fun i hi => by
    obtain rfl | rfl : i = 0 ∨ i = 1 := by have : i < 2 := hi; omega
    · decide
    · decide⟩, by decide, by decide, by decide⟩
  have h2 : TxrOk s8b := ⟨⟨fun i hi => by
    obtain rfl : i = 0 := by have : i < 1 := hi; omega
    decide, fun i hi => by
    obtain rfl : i = 0 := by have : i < 1 := hi; omega
    decide⟩, by decide, by decide, by decide⟩
  have h3 : TxrOk s8c := ⟨⟨fun i hi => by
    obtain rfl : i = 0 := by have : i < 1 := hi; omega
    decide, fun i hi => by
    obtain rfl : i = 0 := by have : i < 1 := hi; omega
    decide⟩, by decide, by decide, by decide⟩
  constructor <;> intro i hi <;> simp at hi
  · obtain rfl | rfl : i = 0 ∨ i = 1 := by omega
    · exact h1
    · exact h2
  · obtain rfl | rfl : i = 0 ∨ i = 1 := by omega
    · exact h1
    · exact h3
theorem s8_may : mayH [s8a, s8b] = true ∧ mayH [s8a, s8c] = true ∧ bigB [s8a, s8b] = false ∧ bigB [s8a, s8c] = false := by decide +kernel
def wm8 : WM := markF (putW (putW (fun _ => none) 5 ⟨0, 0, false⟩) 6 ⟨0, 0, false⟩) (isLast [⟨true, 0, 5⟩, ⟨true, 0, 6⟩])
theorem s8_hist (x : Txr) (hx : x = s8b ∨ x = s8c) {M : WM} (h : histF [s8a, x] [s8a, x].length = some M) : M = markF wm8 (isLast x.ops) := by
  rcases hx with rfl | rfl
  · have : histF [s8a, s8b] 2 = some (markF wm8 (isLast s8b.ops)) := rfl
    rw [show [s8a, s8b].length = 2 from rfl, this] at h
    exact (Option.some.inj h).symm
  · have : histF [s8a, s8c] 2 = some (markF wm8 (isLast s8c.ops)) := rfl
    rw [show [s8a, s8c].length = 2 from rfl, this] at h
    exact (Option.some.inj h).symm
theorem s8_first {M : WM} (h : histF [s8a, s8b] [s8a, s8b].length = some M) : sdAll M [s8a, s8b] [s8a, s8b].length = false ∧ hasR (frAll M [s8a, s8b] [s8a, s8b].length) 0 1 = true := by
  have := s8_hist s8b (.inl rfl) h
  subst this
  constructor <;> decide +kernel
theorem s8_ses : hasR (pairsR (sesB [s8a, s8b]) [s8a, s8b].length) 0 1 = false ∧ hasR (pairsR (timeB [s8a, s8b]) [s8a, s8b].length) 0 1 = true := by decide +kernel
theorem s8_second {M : WM} (h : histF [s8a, s8c] [s8a, s8c].length = some M) : sdAll M [s8a, s8c] [s8a, s8c].length = true ∧ rsAll M [s8a, s8c] [s8a, s8c].length 1 = [(0, 0)] := by
  have := s8_hist s8c (.inr rfl) h
  subst this
  constructor <;> decide +kernel
theorem s8_wr : (wF [s8a, s8c] [s8a, s8c].length) 0 = some 1 := by decide +kernel
set_option maxRecDepth 100000 in
set_option maxHeartbeats 4000000 in
theorem speaks08 (w : World) : Calls Try.prog 22 #[] w fun e w' => e = .returned (.bool true) ∧ Ch nob w w' := by
  go_enter Try.func22, Try.ntmps22
  go_wp2_with fail
  refine (op_write 0 5 w).mono ?_
  rintro e w1 ⟨rfl, hc1⟩
  go_wp2_with fail
  refine (op_write 0 6 _).mono ?_
  rintro e w2 ⟨rfl, hc2⟩
  go_wp2_with fail
  have hbA : Blk (w2.alloc (.cells #[.bool true, .int .i64 0, .int .i64 5, .bool true, .int .i64 0, .int .i64 6] 35)) w2.heap.size #[.bool true, .int .i64 0, .int .i64 5, .bool true, .int .i64 0, .int .i64 6] 35 := Blk.new _ _ _
  refine (op_read 0 5 _).mono ?_
  rintro e w3 ⟨rfl, hc3⟩
  go_wp2_with fail
  obtain ⟨g1, hg1⟩ : ∃ g, w2.heap.size = g := ⟨_, rfl⟩
  obtain ⟨g2, hg2⟩ : ∃ g, w3.heap.size = g := ⟨_, rfl⟩
  have hbB := hbA.ch hc3 (fun h => h)
  have hbC := (Blk.new w3 #[.bool false, .int .i64 0, .int .i64 5] 35)
  obtain ⟨w4, hw4⟩ : ∃ w4, w3.alloc (.cells #[.bool false, .int .i64 0, .int .i64 5] 35) = w4 := ⟨_, rfl⟩
  have hz4 : w4.heap.size = g2 + 1 := by rw [← hw4, ← hg2]; simp
  have hc4 : Ch nob w3 w4 := by rw [← hw4]; exact (Ch.refl _ _).alloc _
  have hbB4 := hbB.ch hc4 (fun h => h)
  have hc5 : Ch nob w w4 := (((hc1.seq hc2).alloc _).seq hc3).seq hc4
  have hwg2 : w.heap.size ≤ g2 := by
    have := ((((hc1.seq hc2).alloc (.cells #[.bool true, .int .i64 0, .int .i64 5, .bool true, .int .i64 0, .int .i64 6] 35)).seq hc3)).size
    omega
  rw [hw4] at hbC ⊢
  rw [hg1] at hbB4
  rw [hg2] at hbC
  rw [hg1, hg2]
  have hg12 : g1 < g2 := by
    have := hbA.lt
    have h2 := hc3.size
    rw [hg1] at this
    rw [hg2] at h2
    omega
  have hbD := (Blk.new w4 #[.int .i64 0, .int .i64 1, .int .i64 2, .slice (some ⟨g1, 0, none⟩) 2 2, .int .i64 1, .int .i64 3, .int .i64 4, .slice (some ⟨g2, 0, none⟩) 1 1] 33)
  rw [hz4] at hbD
  obtain ⟨w5, hw5⟩ : ∃ w5, w4.alloc (.cells #[.int .i64 0, .int .i64 1, .int .i64 2, .slice (some ⟨g1, 0, none⟩) 2 2, .int .i64 1, .int .i64 3, .int .i64 4, .slice (some ⟨g2, 0, none⟩) 1 1] 33) = w5 := ⟨_, rfl⟩
  have hc6 : Ch nob w4 w5 := by rw [← hw5]; exact (Ch.refl _ _).alloc _
  rw [hw5] at hbD ⊢
  have hbB5 := hbB4.ch hc6 (fun h => h)
  have hbC5 := hbC.ch hc6 (fun h => h)
  have hT := (txns_two (a := s8a) (b := s8b) (c := 2) hbD (opl_two (x := ⟨true, 0, 5⟩) (y := ⟨true, 0, 6⟩) hbB5 (Nat.le_refl _)) (opl_one (x := ⟨false, 0, 5⟩) hbC5 (Nat.le_refl _)) (Nat.le_refl _)).1
  have hc7 := hc5.seq hc6
  obtain ⟨g3, hg3⟩ : ∃ g, g2 + 1 = g := ⟨_, rfl⟩
  rw [hg3] at hT hbD ⊢
  have hg23 : g2 < g3 := by omega
  have HT := Lib.hid hT
  have HD := Lib.hid hbD
  have HB := Lib.hid hbB5
  have HC := Lib.hid hbC5
  clear hbA hbB hbC hw4 hz4 hc4 hbB4 hc5 hw5 hc6 hT hg1 hg2 hc1 hc2 hc3 hbD hbB5 hbC5
  refine (of_order w5 _ _ HT.out s8_ok.1 s8_may.1 s8_may.2.2.1).mono ?_
  rintro e w6 ⟨base, go, gm, c, A1, c1, A2, c2, KV, RV, M, rfl, hM, HO, hbs, hc8⟩
  have hsd := (s8_first hM).1
  have hfr := (s8_first hM).2
  rw [hsd] at HO
  have HF := Lib.hid (ord_from HO.blk)
  have HTM := Lib.hid (ord_time HO.blk)
  have HSS := Lib.hid (ord_session HO.blk)
  have hsnd := ord_sound HO.blk
  have hc9 := hc7.seq hc8
  have HD6 := Lib.hid (HD.out.ch hc8 (fun h => h))
  have HB6 := Lib.hid (HB.out.ch hc8 (fun h => h))
  have HC6 := Lib.hid (HC.out.ch hc8 (fun h => h))
  have HHT := Lib.hid (fun (u : World) => has_rel (pairsR (timeB [s8a, s8b]) [s8a, s8b].length) (pairsR_ok _ _ (by decide)) 0 1 u)
  have HHF := Lib.hid (fun (u : World) => has_rel (frAll M [s8a, s8b] [s8a, s8b].length) (frAll_ok _ _ _) 0 1 u)
  have HHS := Lib.hid (fun (u : World) => has_rel (pairsR (sesB [s8a, s8b]) [s8a, s8b].length) (pairsR_ok _ _ (by decide)) 0 1 u)
  rw [s8_ses.2] at HHT
  rw [hfr] at HHF
  rw [s8_ses.1] at HHS
  obtain ⟨TR, hTR⟩ : ∃ R, pairsR (timeB [s8a, s8b]) [s8a, s8b].length = R := ⟨_, rfl⟩
  obtain ⟨SR, hSR⟩ : ∃ R, pairsR (sesB [s8a, s8b]) [s8a, s8b].length = R := ⟨_, rfl⟩
  obtain ⟨FR, hFR⟩ : ∃ R, frAll M [s8a, s8b] [s8a, s8b].length = R := ⟨_, rfl⟩
  rw [hTR] at HTM HHT
  rw [hSR] at HSS HHS
  rw [hFR] at HF HHF
  clear HT HD HB HC hc7 hc8 hM hsd hfr HO hTR hSR hFR hbs
  go_wp2_with (refine wpList_load_relG rfl (.tmp 33) rfl go 65 rfl _ HTM.out ?_)
  refine (HHT.out _).mono ?_
  rintro e w7 ⟨rfl, hcA⟩
  have hsnd7 := cell_keep hsnd hcA
  have HF7 := Lib.hid (rangeAt_keep HF.out hcA)
  have HS7 := Lib.hid (rangeAt_keep HSS.out hcA)
  have hcB := hcA
  clear HF HSS HTM hsnd hcA
  go_wp2_with (refine wpList_load_relG rfl (.tmp 41) rfl go 129 rfl _ HF7.out ?_)
  refine (HHF.out _).mono ?_
  rintro e w8 ⟨rfl, hcA⟩
  have HS8 := Lib.hid (rangeAt_keep HS7.out hcA)
  have hcC := hcB.seq hcA
  clear HF7 HS7 hcA hcB hsnd7
  go_wp2_with (refine wpList_load_relG rfl (.tmp 49) rfl go 1 rfl _ HS8.out ?_)
  refine (HHS.out _).mono ?_
  rintro e w9 ⟨rfl, hcA⟩
  have hcD := hcC.seq hcA
  have hD9 := HD6.out.ch hcD (fun h => h)
  have hB9 := HB6.out.ch hcD (fun h => h)
  have hC9 := HC6.out.ch hcD (fun h => h)
  have hp7 := hD9.cell (i := 7) (v := .slice (some ⟨g2, 0, none⟩) 1 1) rfl
  have hp2 := hC9.cell (i := 2) (v := .int .i64 5) rfl
  have hfz := hC9.free 2
  have hc10 := hc9.seq hcD
  clear HS8 hcA hcC hcD HHT HHF HHS HD6 HB6 HC6 hc9
  go_wp2_with fail
  have hC10 : Blk (w9.setCell ⟨g2, 2, none⟩ (.int .i64 6)) g2 #[.bool false, .int .i64 0, .int .i64 6] 35 := by have := hC9.set 2 (.int .i64 6); simpa using this
  have hch : Ch (· = g2) w9 (w9.setCell ⟨g2, 2, none⟩ (.int .i64 6)) := (Ch.refl _ _).setCell _ _ (fun _ => rfl)
  have hD10 := hD9.ch hch (by omega)
  have hB10 := hB9.ch hch (by omega)
  have hc11 := hc10.setCell ⟨g2, 2, none⟩ (.int .i64 6) (fun h => by simp at h; omega)
  obtain ⟨w10, hw10⟩ : ∃ u, w9.setCell ⟨g2, 2, none⟩ (.int .i64 6) = u := ⟨_, rfl⟩
  rw [hw10] at hC10 hD10 hB10 hc11 ⊢
  have hT2 := (txns_two (a := s8a) (b := s8c) (c := 2) hD10 (opl_two (x := ⟨true, 0, 5⟩) (y := ⟨true, 0, 6⟩) hB10 (Nat.le_refl _)) (opl_one (x := ⟨false, 0, 6⟩) hC10 (Nat.le_refl _)) (Nat.le_refl _)).1
  have H2 := Lib.hid (of_order w10 _ _ hT2 s8_ok.2 s8_may.2.1 s8_may.2.2.2)
  clear hC10 hD10 hB10 hw10 hch hT2 hD9 hB9 hC9 hp7 hp2 hfz hc10
  refine H2.out.mono ?_
  rintro e w11 ⟨base2, go2, gm2, cc2, A3, c3, A4, c4, KV2, RV2, M2, rfl, hM2, HO2, hbs2, hcA⟩
  have hc12 := hc11.seq hcA
  have hsd := (s8_second hM2).1
  have hrs := (s8_second hM2).2
  rw [hsd] at HO2
  have hx0 : w11.cell? ⟨go2, 0, none⟩ = some (.int .i64 2) := ord_n HO2.blk
  have hx6 : w11.cell? ⟨go2, 195, none⟩ = some (.slice A4 2 c4) := ord_reads HO2.blk
  have hx7 := ord_sound HO2.blk
  have hx4 := ord_map HO2.blk
  obtain ⟨g4, hA4, hrow⟩ := row_cells HO2.rrow (i := 1) (by decide) (range_at _ 1 (by decide) RV2)
  have hrv := HO2.rv 1 (by decide)
  rw [hrs] at hrv
  obtain ⟨A5, c5, hsh, _, hcells⟩ := OwnP.prs hrv
  obtain ⟨ad, hA5, hr0, hr1⟩ := hcells 0 (by decide)
  rw [hsh] at hrow
  subst hA4 hA5
  have hmp := HO2.map
  have hlk : (setF (wF [s8a, s8c] [s8a, s8c].length) 0).getD (.int .u64 0) = .int .u64 1 := by rw [setF_get, s8_wr]; rfl
  have HLK := Lib.hid hlk
  have hrow2 : w11.cell? ⟨g4, 1, none⟩ = some (.slice (some ad) 1 c5) := hrow
  have hz0 : ad.add (0 * 2) = ad := by unfold Addr.add; simp
  rw [hz0] at hr0 hr1
  have hq0 : w11.cell? ad = some (.int .i64 0) := hr0
  have hq1 : w11.cell? ⟨ad.block, ad.off + 1, none⟩ = some (.int .i64 0) := hr1
  clear H2 hcA hc11 hM2 hsd hrs HO2 hrv hsh hcells hrow hlk hbs2 hr0 hr1 hz0
  go_wp2_with (at_lookup; refine wpList_imap_getG _ rfl _ _ 52 rfl 3 49 under_int under_mset _ (zero_set _) _ _ _ rfl hmp _ rfl (by decide) ?_; rw [HLK.out])
  go_ret
  exact ⟨rfl, hc12⟩
end Go.Proofs.Ytobfanodjdkkoaa
end

section
/- The rivals of one, by the program (order.Rivals). No condition but each theorem's own. -/
set_option linter.unusedVariables false
set_option linter.unusedSimpArgs false
namespace Go.Proofs.Ytobfanodjdkkoaa
open Go.RowKit Go.Maps

set_option maxRecDepth 100000 in
set_option maxHeartbeats 2000000 in
theorem rivals_order {w : World} {base go gm c n : Nat} {S T F : Nat → Nat} {f : Int → Option Nat} {A1 A2 : Option Addr} {c1 c2 : Nat} {KV RV : Nat → Value} {ks : Nat → List Int} {rs : Nat → List (Int × Int)} {snd : Bool}
    (h : Ords w base go gm c n S T F f A1 c1 A2 c2 KV RV ks rs snd) (hf : SetsOK f) (i : Nat) (hi : i < n) (hn : n ≤ 64) (hk : ∀ x ∈ ks i, 0 ≤ x ∧ x < 64) :
    Calls Try.prog 33 #[.pointer (some ⟨go, 0, none⟩), .int .i64 i] w fun e w' => e = .returned (.int .u64 (rivO f (ks i) (i : Int) : Nat)) ∧ Ch nob w w' := by
  have hx0 := ord_n h.blk
  have hx4 := ord_map h.blk
  have hx5 := ord_keys h.blk
  obtain ⟨g, rfl, hkv⟩ := row_cells h.krow hi (range_at n i hi KV)
  obtain ⟨A3, c3, hsh⟩ := (h.kv i hi).ints.shape
  have hints := (h.kv i hi).ints
  rw [hsh] at hkv hints
  have HR := Lib.hid (show rivO f (ks i) (i : Int) = withoutS (rivS f (ks i) (ks i).length) (i : Int) from rfl)
  have HLT := Lib.hid (rivS_lt hf (ks i))
  have HS := Lib.hid (fun j => show rivS f (ks i) (j + 1) = rivS f (ks i) j ||| (f ((ks i).getD j 0)).getD 0 from rfl)
  have HF := Lib.hid hf
  have hm := h.map
  obtain ⟨l, hl⟩ : ∃ l, ks i = l := ⟨_, rfl⟩
  rw [hl] at hkv hints HR HLT HS hk
  rw [hl]
  obtain ⟨q, hq⟩ : ∃ q, l.length = q := ⟨_, rfl⟩
  have hql : q ≤ 9223372036854775807 := by have := hints.at.2.1; rw [hq] at this; exact this
  have HQ := Lib.hid hq
  rw [hq] at hkv hints HR
  have HI := Lib.hid hints
  have HK := Lib.hid hk
  have HM := Lib.hid hm
  obtain ⟨R, hR⟩ : ∃ R, rivO f l (i : Int) = R := ⟨_, rfl⟩
  rw [hR] at HR ⊢
  have hd1 : decide ((i : Int) < 0) = false := decide_eq_false (by omega)
  have hd2 : decide (n ≤ i) = false := decide_eq_false (by omega)
  clear h hf hsh hl hq hints hk hm hR
  go_enter Try.func33, Try.ntmps33
  go_wp2_with fail
  go_loopw [26, 5] (fun x y wr => ∃ j : Nat, x = .int .i64 j ∧ j ≤ q ∧ y = .int .u64 (rivS f l j : Nat) ∧ Ch nob w wr) (fun x _ _ => q - (intOf x).toNat)
  case atStart => exact ⟨0, rfl, Nat.zero_le _, rfl, Ch.refl _ _⟩
  case round =>
    obtain ⟨j, rfl, hj, rfl, hc⟩ := hrel
    have hy0 := cell_keep hx0 hc
    have hy4 := cell_keep hx4 hc
    have hy5 := cell_keep hx5 hc
    by_cases hlt : j < q
    · have hd : decide ((j : Int) < (q : Int)) = true := decide_eq_true (by omega)
      obtain ⟨ad, rfl, hz⟩ := (HI.out.keep hc).at.2.2 j (by rw [HQ.out]; exact hlt)
      obtain ⟨x, hx⟩ : ∃ x, l.getD j 0 = x := ⟨_, rfl⟩
      have hxm : x ∈ l := by
        rw [← hx, List.getD_eq_getElem?_getD, List.getElem?_eq_getElem (by rw [HQ.out]; exact hlt)]
        exact List.getElem_mem _
      have hwf : (Lit.int .i64 x).wf = true := by
        have := HK.out x hxm
        simp [Lit.wf, IntKind.min, IntKind.max, IntKind.signed, IntKind.bits]
        omega
      rw [hx] at hz
      obtain ⟨s, hs⟩ : ∃ s, (f x).getD 0 = s := ⟨_, rfl⟩
      have hget : (setF f x).getD (.int .u64 0) = .int .u64 (s : Nat) := by rw [setF_get, hs]
      have hor := Bits.or_u64 (rivS f l j) s (HLT.out j) (by rw [← hs]; exact HF.out x)
      have hst : rivS f l (j + 1) = rivS f l j ||| s := by rw [HS.out, hx, hs]
      rw [← hst] at hor
      have hmw := HM.out.keep hc
      obtain ⟨r1, hr1⟩ : ∃ r, rivS f l j = r := ⟨_, rfl⟩
      obtain ⟨r2, hr2⟩ : ∃ r, rivS f l (j + 1) = r := ⟨_, rfl⟩
      have HR2 := Lib.hid hr2
      rw [hr1, hr2] at hor
      rw [hr1]
      have HGET := Lib.hid hget
      clear hx hxm hs hst hr1 hr2 hget
      go_wp2_with (at_lookup; refine wpList_imap_get _ rfl _ _ 52 rfl 3 49 under_int under_mset _ (zero_set _) _ _ _ rfl hmw _ rfl hwf ?_; rw [HGET.out])
      go_roundw
      case rel => exact ⟨j + 1, by go_num, by omega, (by rw [HR2.out]), hc⟩
      case measure => simp [intOf]; omega
    · have hd : decide ((j : Int) < (q : Int)) = false := decide_eq_false (by omega)
      obtain rfl : j = q := by omega
      have HW := Lib.hid (without_set (rivS f l j) (i : Int) wr (HLT.out j))
      rw [← HR.out] at HW
      go_wp2_with fail
      refine HW.out.mono ?_
      rintro e w2 ⟨rfl, rfl⟩
      go_wp2_with fail
      go_ret
      exact ⟨rfl, hc⟩
set_option maxHeartbeats 1000000 in
theorem rivals_out {w : World} {go : Nat} {n i : Int} (hx0 : w.cell? ⟨go, 0, none⟩ = some (.int .i64 n)) (hi : i < 0 ∨ n ≤ i) :
    Calls Try.prog 33 #[.pointer (some ⟨go, 0, none⟩), .int .i64 i] w fun e w' => e = .returned (.int .u64 0) ∧ Ch nob w w' := by
  by_cases h0 : i < 0
  · have hd1 : decide (i < 0) = true := decide_eq_true h0
    go_enter Try.func33, Try.ntmps33
    go_wp2_with fail
    go_ret
    exact ⟨rfl, Ch.refl _ _⟩
  · have hd1 : decide (i < 0) = false := decide_eq_false h0
    have hd2 : decide (n ≤ i) = true := decide_eq_true (by omega)
    go_enter Try.func33, Try.ntmps33
    go_wp2_with fail
    go_ret
    exact ⟨rfl, Ch.refl _ _⟩
end Go.Proofs.Ytobfanodjdkkoaa
end

section
/- Two transactions that are one, as the law sees it (burgagelaw08.sameTxn). No condition but each theorem's own. -/
set_option linter.unusedVariables false
set_option linter.unusedSimpArgs false
namespace Go.Proofs.Ytobfanodjdkkoaa
open Go.RowKit Go.Maps

set_option maxRecDepth 100000 in
set_option maxHeartbeats 4000000 in
theorem same_txn (w : World) (t : Txr) (u v : Value) (hu : Opl w u t.ops) (hv : Opl w v t.ops) :
    Calls Try.prog 24 #[.agg #[.int .i64 t.ses, .int .i64 t.beg, .int .i64 t.com, u], .agg #[.int .i64 t.ses, .int .i64 t.beg, .int .i64 t.com, v]] w fun e w' => e = .returned (.bool true) ∧ Ch nob w w' := by
  obtain ⟨ts, tb, tc, xs⟩ := t
  dsimp only at hu hv ⊢
  obtain ⟨A1, c1, rfl⟩ := hu.shape
  obtain ⟨A2, c2, rfl⟩ := hv.shape
  obtain ⟨l, hl⟩ : ∃ l, xs.length = l := ⟨_, rfl⟩
  have hll : l ≤ 9223372036854775807 := by have := hu.at.2.1.2; rw [hl] at this; exact this
  rw [hl] at hu hv ⊢
  have HL := Lib.hid hl
  have HU := Lib.hid hu
  have HV := Lib.hid hv
  have hb1 := ((Blk.new w #[.int .i64 ts, .int .i64 tb, .int .i64 tc, .slice A1 l c1] 33).alloc (.cells #[.int .i64 ts, .int .i64 tb, .int .i64 tc, .slice A2 l c2] 33))
  have hb2 := Blk.new (w.alloc (.cells #[.int .i64 ts, .int .i64 tb, .int .i64 tc, .slice A1 l c1] 33)) #[.int .i64 ts, .int .i64 tb, .int .i64 tc, .slice A2 l c2] 33
  have hc0 : Ch nob w ((w.alloc (.cells #[.int .i64 ts, .int .i64 tb, .int .i64 tc, .slice A1 l c1] 33)).alloc (.cells #[.int .i64 ts, .int .i64 tb, .int .i64 tc, .slice A2 l c2] 33)) := ((Ch.refl _ _).alloc _).alloc _
  have n1 : (ts != ts) = false := by simp
  have n2 : (tb != tb) = false := by simp
  have n3 : (tc != tc) = false := by simp
  have n4 : ((l : Int) != (l : Int)) = false := by simp
  clear hl hu hv
  go_enter Try.func24, Try.ntmps24
  go_wp2_with fail
  obtain ⟨w2, hw2⟩ : ∃ u, (w.alloc (.cells #[.int .i64 ts, .int .i64 tb, .int .i64 tc, .slice A1 l c1] 33)).alloc (.cells #[.int .i64 ts, .int .i64 tb, .int .i64 tc, .slice A2 l c2] 33) = u := ⟨_, rfl⟩
  have hb2' : Blk w2 (w.heap.size + 1) #[.int .i64 ts, .int .i64 tb, .int .i64 tc, .slice A2 l c2] 33 := by rw [← hw2]; simpa using hb2
  rw [hw2] at hb1 hc0 ⊢
  obtain ⟨g1, hg1⟩ : ∃ g, w.heap.size = g := ⟨_, rfl⟩
  rw [hg1] at hb1 hb2' ⊢
  obtain ⟨g2, hg2⟩ : ∃ g, g1 + 1 = g := ⟨_, rfl⟩
  rw [hg2] at hb2' ⊢
  have HB1 := Lib.hid hb1
  have HB2 := Lib.hid hb2'
  clear hw2 hg1 hg2 hb1 hb2 hb2'
  go_loopw [37] (fun x wr => ∃ j : Nat, x = .int .i64 j ∧ j ≤ l ∧ Ch nob w2 wr) (fun x _ => l - (intOf x).toNat)
  case atStart => exact ⟨0, rfl, Nat.zero_le _, Ch.refl _ _⟩
  case round =>
    obtain ⟨j, rfl, hj, hc⟩ := hrel
    by_cases hlt : j < l
    · have hd : decide ((j : Int) < (l : Int)) = true := decide_eq_true (by omega)
      have hp1 := (HB1.out.ch hc (fun h => h)).cell (i := 3) (v := .slice A1 l c1) rfl
      have hp2 := (HB2.out.ch hc (fun h => h)).cell (i := 3) (v := .slice A2 l c2) rfl
      obtain ⟨ad1, rfl, hx0, hx1, hx2⟩ := (HU.out.keep (hc0.seq hc)).at.2.2 j (by rw [HL.out]; exact hlt)
      obtain ⟨ad2, rfl, hy0, hy1, hy2⟩ := (HV.out.keep (hc0.seq hc)).at.2.2 j (by rw [HL.out]; exact hlt)
      obtain ⟨x, hx⟩ : ∃ x, xs.getD j opZero = x := ⟨_, rfl⟩
      rw [hx] at hx0 hx1 hx2 hy0 hy1 hy2
      obtain ⟨xw, xk, xv⟩ := x
      dsimp only at hx0 hx1 hx2 hy0 hy1 hy2
      have X0 := fun q : Ext wr => Ext.cell hp1 q
      have X1 := fun q : Ext wr => Ext.cell hp2 q
      have X2 := fun q : Ext wr => Ext.cell hx0 q
      have X3 := fun q : Ext wr => Ext.cell hx1 q
      have X4 := fun q : Ext wr => Ext.cell hx2 q
      have X5 := fun q : Ext wr => Ext.cell hy0 q
      have X6 := fun q : Ext wr => Ext.cell hy1 q
      have X7 := fun q : Ext wr => Ext.cell hy2 q
      clear hx
      go_wp2_with fail
      refine wp_region_ch (w0 := wr) (by kernel_rfl) (by kernel_rfl) (Ch.refl _ _) ?_
      repeat go_big_quiet_step (fail)
      refine wpQuiet_nil ?_
      rintro wq ⟨⟨_, hcq⟩, rfl⟩
      have hc2 := hc.seq hcq
      clear X0 X1 X2 X3 X4 X5 X6 X7 hp1 hp2 hx0 hx1 hx2 hy0 hy1 hy2 hc hcq
      go_wp2_with fail
      go_roundw
      case rel => exact ⟨j + 1, by go_num, by omega, hc2⟩
      case measure => simp [intOf]; omega
    · have hd : decide ((j : Int) < (l : Int)) = false := decide_eq_false (by omega)
      go_wp2_with fail
      go_ret
      exact ⟨rfl, hc0.seq hc⟩

/-! ### Rows of transactions of which the first ones were written over -/
theorem rangeAt_off {w w' : World} {b o g : Nat} {cs : List Value} (h : w.rangeAt b o cs) (hc : Ch (· = g) w w') (hne : b ≠ g) : w'.rangeAt b o cs := fun j v hv =>
  (World.cell?_of_block (hc.block _ (World.block_lt_of_cell? w _ (h j v hv)) (fun h => hne h))).trans (h j v hv)
structure Rest (w : World) (base B g : Nat) (hs : List Txr) (U : Nat → Value) (n i : Nat) : Prop where
  blk : ∃ C, Blk w g C 33
  gge : base ≤ g ∧ g < B
  cells : ∀ j, i ≤ j → j < n → w.cell? ⟨g, j * 4, none⟩ = some (.int .i64 (hs.getD j txrZero).ses) ∧ w.cell? ⟨g, j * 4 + 1, none⟩ = some (.int .i64 (hs.getD j txrZero).beg) ∧ w.cell? ⟨g, j * 4 + 2, none⟩ = some (.int .i64 (hs.getD j txrZero).com) ∧ w.cell? ⟨g, j * 4 + 3, none⟩ = some (U j)
  ops : ∀ j, i ≤ j → j < n → OwnO w base 35 (U j) (hs.getD j txrZero).ops
  below : ∀ j, i ≤ j → j < n → ∀ b, (U j).ownBlock = some b → b < B
  apart : ∀ j k, i ≤ j → i ≤ k → j < n → k < n → j ≠ k → ∀ b, (U j).ownBlock = some b → (U k).ownBlock ≠ some b
theorem Rest.ne {w : World} {base B g : Nat} {hs : List Txr} {U : Nat → Value} {n i : Nat} (h : Rest w base B g hs U n i) {j : Nat} (h1 : i ≤ j) (h2 : j < n) : (U j).ownBlock ≠ some g := by
  obtain ⟨C, hC⟩ := h.blk
  have ho := h.ops j h1 h2
  rcases ho.2 with ⟨hv, _⟩ | ⟨g2, _, _, hv, _, hg, _⟩
  · rw [hv]; intro e; cases e
  · rw [hv]
    intro e
    have e1 : g2 = g := by simpa [Value.ownBlock] using e
    have hC' : w.heap[g]? = some (.cells C 33 (0, 0)) := hC
    rw [e1, hC'] at hg
    simp at hg
theorem Rest.keep {w w' : World} {base B g : Nat} {hs : List Txr} {U : Nat → Value} {n i : Nat} (h : Rest w base B g hs U n i) (hc : Ch nob w w') : Rest w' base B g hs U n i := by
  obtain ⟨C, hC⟩ := h.blk
  exact ⟨⟨C, hC.ch hc (fun h => h)⟩, h.gge, fun j h1 h2 => ⟨cell_keep (h.cells j h1 h2).1 hc, cell_keep (h.cells j h1 h2).2.1 hc, cell_keep (h.cells j h1 h2).2.2.1 hc, cell_keep (h.cells j h1 h2).2.2.2 hc⟩, fun j h1 h2 => (h.ops j h1 h2).keep hc, h.below, h.apart⟩
theorem OwnT.rest {w : World} {base g n c B : Nat} {hs : List Txr} {U : Nat → Value} (h : OwnT w base (.slice (some ⟨g, 0, none⟩) n c) hs U n) (hB : w.heap.size ≤ B) : Rest w base B g hs U n 0 := by
  have hr := h.row
  have hlt := hr.lt g (by rfl)
  rcases hr.2 with ⟨hv, _⟩ | ⟨g2, cap, cur, hv, hb, hg, _⟩
  · cases hv
  · have e : g2 = g := by simp at hv; exact hv.1.symm
    subst e
    exact ⟨⟨cur, hg⟩, ⟨hlt.1, by omega⟩, fun j _ h2 => h.cells j h2, fun j _ h2 => h.ops j h2, fun j _ h2 b hb => by have := ((h.ops j h2).ge b hb).2; omega, fun j k _ _ h3 h4 h5 => h.apart j k h3 h4 h5⟩
/-- The i-th one is written over: its session, its first operation's key. -/
theorem Rest.next {w : World} {base B g gu : Nat} {hs : List Txr} {U : Nat → Value} {n i l c : Nat} {z1 z2 : Value} (h : Rest w base B g hs U n i) (hi : i < n) (hU : U i = .slice (some ⟨gu, 0, none⟩) l c) :
    Rest ((w.setCell ⟨g, i * 4, none⟩ z1).setCell ⟨gu, 1, none⟩ z2) base B g hs U n (i + 1) := by
  obtain ⟨C, hC⟩ := h.blk
  have hne : gu ≠ g := fun e => h.ne (Nat.le_refl i) hi (by rw [hU, e]; rfl)
  have hc1 : Ch (· = g) w (w.setCell ⟨g, i * 4, none⟩ z1) := (Ch.refl _ _).setCell _ _ (fun _ => rfl)
  have hc2 : Ch (· = gu) (w.setCell ⟨g, i * 4, none⟩ z1) ((w.setCell ⟨g, i * 4, none⟩ z1).setCell ⟨gu, 1, none⟩ z2) := (Ch.refl _ _).setCell _ _ (fun _ => rfl)
  have hB1 := hC.set (i * 4) z1
  refine ⟨⟨_, hB1.ch hc2 (fun e => hne e.symm)⟩, h.gge, fun j h1 h2 => ?_, fun j h1 h2 => ?_, fun j h1 h2 => h.below j (by omega) h2, fun j k h1 h2 => h.apart j k (by omega) (by omega)⟩
  · have hcl := h.cells j (by omega) h2
    have step : ∀ (k : Nat) (v : Value), k ≠ i * 4 → w.cell? ⟨g, k, none⟩ = some v → ((w.setCell ⟨g, i * 4, none⟩ z1).setCell ⟨gu, 1, none⟩ z2).cell? ⟨g, k, none⟩ = some v := fun k v hk hv => by
      have h3 : (w.setCell ⟨g, i * 4, none⟩ z1).cell? ⟨g, k, none⟩ = some v := by rw [cell_put hv, if_neg hk]
      exact (World.cell?_of_block (hc2.block _ (World.block_lt_of_cell? _ _ h3) (fun e => hne e.symm))).trans h3
    exact ⟨step _ _ (by omega) hcl.1, step _ _ (by omega) hcl.2.1, step _ _ (by omega) hcl.2.2.1, step _ _ (by omega) hcl.2.2.2⟩
  · have ho := h.ops j (by omega) h2
    have h1' := ho.off hc1 (fun b hb e => h.ne (show i ≤ j by omega) h2 (by rw [hb, e]))
    exact h1'.off hc2 (fun b hb e => h.apart j i (by omega) (Nat.le_refl i) h2 hi (by omega) b hb (by rw [hU, e]; rfl))
end Go.Proofs.Ytobfanodjdkkoaa
end

section
/- The reference's sets, number by number, come to plain sets. No condition but each theorem's own. -/
set_option linter.unusedVariables false
set_option linter.unusedSimpArgs false
namespace Go.Proofs.Ytobfanodjdkkoaa
open Go.RowKit
namespace Ref01
def hasL (l : List Int) (n : Int) : Bool := l.any fun x => x == n
theorem any_take_succ (l : List Int) (p : Int → Bool) (k : Nat) (h : k < l.length) : (l.take (k + 1)).any p = ((l.take k).any p || p (l.getD k 0)) := by
  rw [List.take_add_one, List.any_append, List.getElem?_eq_getElem h]
  simp [List.getD_eq_getElem?_getD, h]
theorem all_take_succ (l : List Int) (p : Int → Bool) (k : Nat) (h : k < l.length) : (l.take (k + 1)).all p = ((l.take k).all p && p (l.getD k 0)) := by
  rw [List.take_add_one, List.all_append, List.getElem?_eq_getElem h]
  simp [List.getD_eq_getElem?_getD, h]
theorem any_of_at (l : List Int) (p : Int → Bool) (k : Nat) (h : k < l.length) (hp : p (l.getD k 0) = true) : l.any p = true := by
  rw [List.any_eq_true]
  exact ⟨l.getD k 0, by rw [List.getD_eq_getElem?_getD, List.getElem?_eq_getElem h]; exact List.getElem_mem h, hp⟩
theorem all_of_at (l : List Int) (p : Int → Bool) (k : Nat) (h : k < l.length) (hp : p (l.getD k 0) = false) : l.all p = false := by
  rw [List.all_eq_false]
  exact ⟨l.getD k 0, by rw [List.getD_eq_getElem?_getD, List.getElem?_eq_getElem h]; exact List.getElem_mem h, by rw [hp]; decide⟩

theorem same_step (a b : List Int) (hl : a.length = b.length) (k : Nat) (hk : k < a.length) (hp : a.take k = b.take k) (he : a.getD k 0 = b.getD k 0) : a.take (k + 1) = b.take (k + 1) := by
  rw [List.take_add_one, List.take_add_one, hp, List.getElem?_eq_getElem hk, List.getElem?_eq_getElem (hl ▸ hk)]
  rw [List.getD_eq_getElem?_getD, List.getD_eq_getElem?_getD, List.getElem?_eq_getElem hk, List.getElem?_eq_getElem (hl ▸ hk)] at he
  simp at he
  rw [he]
theorem same_ref01 (v u : Value) (a b : List Int) (w : World) (ha : Ints w v a) (hb : Ints w u b) : Calls Try.prog 30 #[v, u] w fun e w' => e = .returned (.bool (decide (a = b))) ∧ Dr w w' := by
  obtain ⟨A, c, rfl⟩ := ha.shape
  obtain ⟨_, hlen, hcells⟩ := ha.at
  obtain ⟨B, d, rfl⟩ := hb.shape
  obtain ⟨_, hlenb, hcellsb⟩ := hb.at
  clear ha hb
  have HA := Lib.hid hcells
  have HB := Lib.hid hcellsb
  clear hcells hcellsb
  by_cases hl : a.length = b.length
  · have HL := Lib.hid hl
    have hl1 : a.length ≤ b.length := by omega
    have hl2 : b.length ≤ a.length := by omega
    have hne : ((a.length : Int) != (b.length : Int)) = false := by simp [hl]
    clear hl
    go_enter Try.func30, Try.ntmps30
    go_wp2_with fail
    go_loopw [5] (fun q wr => ∃ k : Nat, q = .int .i64 k ∧ k ≤ a.length ∧ Hid (a.take k = b.take k) ∧ Dr w wr) (fun q _ => a.length - (intOf q).toNat)
    case atStart => exact ⟨0, rfl, by omega, Lib.hid rfl, Dr.refl _⟩
    case round =>
      obtain ⟨k, rfl, hk, hn, hw⟩ := hrel
      by_cases hlt : k < a.length
      · obtain ⟨ad, rfl, hx⟩ := HA.out k hlt
        obtain ⟨bd, rfl, hy⟩ := HB.out k (by omega)
        replace hx := hw.cell hx
        replace hy := hw.cell hy
        have hkb : (k : Int) < (b.length : Int) := by omega
        have hka : (k : Int) < (a.length : Int) := by omega
        have HS := Lib.hid (same_step a b HL.out k hlt hn.out)
        have HD : Hid (a = b → a.getD k 0 = b.getD k 0) := Lib.hid (fun e => by rw [e])
        generalize a.getD k 0 = x at hx HS HD
        generalize b.getD k 0 = y at hy HS HD
        by_cases he : x = y
        · have hb1 : (x != y) = false := by simp [he]
          have hn2 := Lib.hid (HS.out he)
          clear he
          go_wp2_with fail
          go_quiet (fail)
          go_wp2_with fail
          go_roundw
          case rel => exact ⟨k + 1, by go_num, by omega, hn2, hw.step _⟩
          case measure => simp [intOf]; omega
        · have hb1 : (x != y) = true := by simp [he]
          have HE := Lib.hid he
          clear he
          go_wp2_with fail
          go_quiet (fail)
          go_wp2_with fail
          go_ret
          exact ⟨ret_bool (decide_eq_false (fun e => HE.out (HD.out e))).symm, hw.step _⟩
      · go_wp2_with fail
        go_ret
        refine ⟨ret_bool ?_, hw⟩
        have h1 := hn.out
        rw [List.take_of_length_le (by omega), List.take_of_length_le (by omega)] at h1
        exact (decide_eq_true h1).symm
  · have hne : ((a.length : Int) != (b.length : Int)) = true := by simp [bne_iff_ne]; omega
    have HL := Lib.hid hl
    clear hl
    go_enter Try.func30, Try.ntmps30
    go_wp2_with fail
    go_ret
    exact ⟨ret_bool (decide_eq_false (fun e => HL.out (by rw [e]))).symm, Dr.refl _⟩

/-- A set by definition, from the greatest number on. -/
def bn (p : Nat → Bool) : Nat → Nat
  | 0 => 0
  | d + 1 => 2 * bn p d + if p (63 - d) then 1 else 0
theorem bn_lt (p : Nat → Bool) (d : Nat) : bn p d < 2 ^ d := by
  induction d with
  | zero => exact Nat.zero_lt_one
  | succ d ih =>
    rw [Nat.pow_succ]
    show 2 * bn p d + (if p (63 - d) then 1 else 0) < _
    split <;> omega
theorem bn_bit (p : Nat → Bool) (d : Nat) (hd : d ≤ 64) : ∀ j, (bn p d).testBit j = (decide (j < d) && p (64 - d + j)) := by
  induction d with
  | zero => intro j; simp [bn]
  | succ d ih =>
    intro j
    show (2 * bn p d + if p (63 - d) then 1 else 0).testBit j = _
    cases j with
    | zero =>
      rw [Nat.testBit_zero, show 64 - (d + 1) + 0 = 63 - d from by omega]
      cases hp : p (63 - d) <;> simp <;> omega
    | succ j =>
      rw [Nat.testBit_succ, show (2 * bn p d + if p (63 - d) then 1 else 0) / 2 = bn p d from by split <;> omega, ih (by omega) j, show 64 - d + j = 64 - (d + 1) + (j + 1) from by omega]
      congr 1
      exact decide_eq_decide.2 (by omega)
def ofRef (l : List Int) : Nat := bn (fun i => hasL l i) 64
theorem ofRef_bit (l : List Int) (j : Nat) : (ofRef l).testBit j = (decide (j < 64) && hasL l j) := by
  unfold ofRef; rw [bn_bit _ 64 (Nat.le_refl _)]; simp

/-- The list of the first k numbers for which p holds. -/
def upto (p : Nat → Bool) (k : Nat) : List Int := ((List.range k).filter p).map fun i : Nat => (i : Int)
theorem upto_succ (p : Nat → Bool) (k : Nat) : upto p (k + 1) = upto p k ++ if p k then [(k : Int)] else [] := by
  unfold upto
  rw [List.range_succ, List.filter_append, List.map_append]
  cases h : p k <;> simp [h]
theorem upto_le (p : Nat → Bool) (k : Nat) : (upto p k).length ≤ k := by
  unfold upto
  rw [List.length_map]
  have := List.length_filter_le p (List.range k)
  simpa using this
end Ref01
end Go.Proofs.Ytobfanodjdkkoaa
end
