/- Texts of this claim, merged: SortG SortH Map Opl TxnA TxnB TxnC Ref05 Ref05b Ref05c Ref05d OpRight. -/
import Derived.Test.YtlhfpnkfapghoaaDoorPk0
import Derived.Maps.RangeWalk
import Derived.Maps.Ext
section
/- The library's merge of two stretches of operations by their keys: the walk, by induction on their length. No condition but each theorem's own. -/
set_option linter.unusedVariables false
set_option linter.unusedSimpArgs false
namespace Go.Proofs.YtlhfpnkfapghoaaDoor
open Go.RowKit

theorem sorted_out {D E : Nat → Opn} {a m p q : Nat} (h : Shuf a m D E) (hs : SortedOn D p q) (hp : m ≤ p) : SortedOn E p q := fun i j h1 h2 h3 => by
  rw [h.out i (by omega), h.out j (by omega)]; exact hs i j h1 h2 h3
theorem sorted_glue {D : Nat → Opn} {a s m : Nat} (h1 : SortedOn D a s) (h2 : SortedOn D s m) (has : a ≤ s) (hsm : s ≤ m) (h : ¬ (a < s ∧ s < m)) : SortedOn D a m := by
  by_cases e : a = s
  · subst e; exact h2
  · obtain rfl : s = m := by omega
    exact h1
theorem merge_end {D D3 D4 : Nat → Opn} {a s m mid e b : Nat} (H : Halves (rotR D s m e) a s mid e b) (has : a ≤ s) (hsm : s ≤ m) (hme : m ≤ e) (heb : e ≤ b) (ham : a ≤ mid) (hmb : mid ≤ b) (h1 : Shuf a mid (rotR D s m e) D3) (s1 : SortedOn D3 a mid) (h2 : Shuf mid b D3 D4) (s2 : SortedOn D4 mid b) : Shuf a b D D4 ∧ SortedOn D4 a b := by
  have h := halves_done H ham hmb h1 s1 h2 s2
  exact ⟨((rotR_shuf D s m e hsm hme).mono has heb).trans h.1, h.2⟩
def MergeAt (g N : Nat) (R : Nat → Value) (n cap a m b : Nat) (D : Nat → Opn) (w : World) : Prop :=
    Calls Tryd.prog 146 #[.slice (some ⟨g, 0, none⟩) n cap, .int .i64 a, .int .i64 m, .int .i64 b, byKeyV] w (RetMerge g N D R n a b w)
set_option maxRecDepth 100000 in
set_option maxHeartbeats 8000000 in
theorem merge_step (g N : Nat) (D : Nat → Opn) (R : Nat → Value) (n cap a m b : Nat) (w : World) (hd : OpBlk w g N D R n 121) (ham : a + 1 < m) (hmb : m + 1 < b) (hbn : b ≤ n) (hn : n ≤ 1000000) (h1 : SortedOn D a m) (h2 : SortedOn D m b)
    (ih : ∀ (D' : Nat → Opn) (a' m' b' : Nat) (w' : World), b' - a' < b - a → OpBlk w' g N D' R n 121 → a' < m' → m' < b' → b' ≤ n → SortedOn D' a' m' → SortedOn D' m' b' → MergeAt g N R n cap a' m' b' D' w') : MergeAt g N R n cap a m b D w := by
  have HD := Lib.hid hd
  have H1 := Lib.hid h1
  have H2 := Lib.hid h2
  have IH := Lib.hid ih
  have hcr := Ch.refl (· = g) w
  obtain ⟨d, hd0⟩ : ∃ d : Int, (m : Int) - (a : Int) = d := ⟨_, rfl⟩
  have hsub0 : (d == 1) = false := by simp; omega
  obtain ⟨d2, hd2⟩ : ∃ d2 : Int, (b : Int) - (m : Int) = d2 := ⟨_, rfl⟩
  have hsub2 : (d2 == 1) = false := by simp; omega
  obtain ⟨mid, hmid⟩ : ∃ mid : Nat, (a + b) / 2 = mid := ⟨_, rfl⟩
  have hm2 : ((a : Int) + (b : Int)) / 2 = (mid : Int) := by omega
  have hmid1 : a ≤ mid := by omega
  have hmid2 : mid ≤ b := by omega
  obtain ⟨nn, hnn⟩ : ∃ nn : Nat, mid + m = nn := ⟨_, rfl⟩
  have hn2 : (mid : Int) + (m : Int) = (nn : Int) := by omega
  obtain ⟨p, hp⟩ : ∃ p : Nat, nn - 1 = p := ⟨_, rfl⟩
  have hp2 : (nn : Int) - 1 = (p : Int) := by omega
  have HP := Lib.hid (show p + 1 = mid + m ∧ nn = mid + m from by omega)
  have hstart : ∃ s0 r0 : Nat, Hid (if mid < m then (nn : Int) - (b : Int) = (s0 : Int) ∧ (mid : Int) = (r0 : Int) else (a : Int) = (s0 : Int) ∧ (m : Int) = (r0 : Int)) ∧ a ≤ s0 ∧ nn ≤ b + s0 ∧ s0 ≤ r0 ∧ r0 ≤ m ∧ r0 ≤ mid ∧ ¬ (a < s0 ∧ nn < b + s0) ∧ ¬ (r0 < m ∧ r0 < mid) := by
    by_cases h : mid < m
    · exact ⟨nn - b, mid, Lib.hid (by rw [if_pos h]; omega), by omega, by omega, by omega, by omega, by omega, by omega, by omega⟩
    · exact ⟨a, m, Lib.hid (by rw [if_neg h]; omega), by omega, by omega, by omega, by omega, by omega, by omega, by omega⟩
  obtain ⟨s0, r0, hS, k1, k2, k3, k4, k5, k6, k7⟩ := hstart
  have HV := Lib.hid (show (a < s0 → nn < b + s0 → (D (s0 - 1)).key ≤ (D (nn - s0)).key) ∧ (r0 < m → r0 < mid → (D (p - r0)).key ≤ (D r0).key) from ⟨fun h h' => absurd ⟨h, h'⟩ k6, fun h h' => absurd ⟨h, h'⟩ k7⟩)
  have HA := Lib.hid (show a < mid ∧ mid < b from by omega)
  clear hd h1 h2 ih hmid hnn hp k6 k7
  unfold MergeAt
  rcases (show (mid < m) ∨ ¬ (mid < m) from by omega) with hc | hc
  all_goals first
    | have hb1 : decide ((mid : Int) < (m : Int)) = true := decide_eq_true (by omega)
    | have hb1 : decide ((mid : Int) < (m : Int)) = false := decide_eq_false (by omega)
  all_goals
    have hS1 := hS.out
    first | rw [if_pos hc] at hS1 | rw [if_neg hc] at hS1
    obtain ⟨e1, e2⟩ := hS1
    first
      | (have e3 : mid = r0 := by omega
         have e4 : (nn : Int) - (b : Int) = (s0 : Int) := e1
         subst e3
         clear e1)
      | (have e3 : m = r0 := by omega
         have e4 : a = s0 := by omega
         subst e3
         subst e4
         clear e1)
    clear e2 hS
    go_enter Tryd.func146, Tryd.ntmps146
    go_wp2_with fail
    clear hc hb1 hn2 hp2 hm2
    try clear e4
    go_loopw [20, 21] (fun x y wr => ∃ i j : Nat, x = .int .i64 i ∧ y = .int .i64 j ∧ a ≤ i ∧ nn ≤ b + i ∧ i ≤ j ∧ j ≤ m ∧ j ≤ mid ∧ Hid ((a < i → nn < b + i → (D (i - 1)).key ≤ (D (nn - i)).key) ∧ (j < m → j < mid → (D (p - j)).key ≤ (D j).key)) ∧ Hid (OpBlk wr g N D R n 121) ∧ Ch (· = g) w wr) (fun x y _ => (intOf y).toNat - (intOf x).toNat)
    case atStart => exact ⟨_, _, rfl, rfl, k1, k2, k3, k4, k5, HV, HD, hcr⟩
    case round =>
      clear HD hcr HV k1 k2 k3 k4 k5
      obtain ⟨i, j, rfl, rfl, q1, q2, q3, q4, q5, hP, hb, hc⟩ := hrel
      by_cases hlt : i < j
      · have hd1 : decide ((i : Int) < (j : Int)) = true := decide_eq_true (by omega)
        obtain ⟨h, hh⟩ : ∃ h, (i + j) / 2 = h := ⟨_, rfl⟩
        have hh1 : i ≤ h := by omega
        have hh2 : h < j := by omega
        have hhi : ((i : Int) + (j : Int)) / 2 = (h : Int) := by omega
        obtain ⟨q, hq⟩ : ∃ q, p - h = q := ⟨_, rfl⟩
        have hw : IntKind.i64.wrap ((p : Int) - (h : Int)) = (q : Int) := by
          have := HP.out
          rw [show (p : Int) - (h : Int) = (q : Int) from by omega]
          exact IntWalk.i64_in _ (by omega)
        have hqb : q < b := by have := HP.out; omega
        have HQ := Lib.hid (show q + h = p ∧ p + 1 = nn from by have := HP.out; omega)
        have hn1 : (h : Int) < (n : Int) := by omega
        have hn2 : (q : Int) < (n : Int) := by omega
        have hn0 : (0 : Int) ≤ (h : Int) := by omega
        have hn3 : (0 : Int) ≤ (q : Int) := by omega
        clear hh hq
        obtain ⟨x0, x1, x2⟩ := hb.out.at h (by omega)
        obtain ⟨y0, y1, y2⟩ := hb.out.at q (by omega)
        have X0 := fun u : Ext wr => Ext.cell x0 u
        have X1 := fun u : Ext wr => Ext.cell x1 u
        have X2 := fun u : Ext wr => Ext.cell x2 u
        have Y0 := fun u : Ext wr => Ext.cell y0 u
        have Y1 := fun u : Ext wr => Ext.cell y1 u
        have Y2 := fun u : Ext wr => Ext.cell y2 u
        have HK := Lib.hid (fun u : Ext wr => ext_of (by_key (D q) (D h) u.val))
        have CN := Lib.hid (cmpI_neg (D q).key (D h).key)
        by_cases hlt2 : (D q).key < (D h).key
        · have hcm : decide (cmpI (D q).key (D h).key < 0) = true := by rw [decide_eq_true_iff, CN.out]; exact hlt2
          have HP2 : Hid ((a < i → nn < b + i → (D (i - 1)).key ≤ (D (nn - i)).key) ∧ (h < m → h < mid → (D (p - h)).key ≤ (D h).key)) := Lib.hid ⟨hP.out.1, fun _ _ => by rw [show p - h = q from by have := HQ.out; omega]; omega⟩
          go_wp2_with fail
          refine wp_region_ch (w0 := wr) (by kernel_rfl) (by kernel_rfl) (Ch.refl _ _) ?_
          repeat (go_big_quiet_step ((go_at_call 137; exact HK.out _)))
          refine wpQuiet_nil ?_
          rintro wq ⟨⟨_, hcq⟩, rfl⟩
          have HB := Lib.hid (hb.out.keep hcq)
          have hcq2 := (hc.seq hcq)
          clear X0 X1 X2 Y0 Y1 Y2 x0 x1 x2 y0 y1 y2 HK hb hc hcq hcm hw
          go_wp2_with fail
          go_roundw
          case rel => exact ⟨i, h, rfl, rfl, q1, q2, hh1, by omega, by omega, HP2, HB, hcq2⟩
          case measure => simp [intOf]; omega
        · have hcm : decide (cmpI (D q).key (D h).key < 0) = false := by rw [decide_eq_false_iff_not, CN.out]; exact hlt2
          have HP2 : Hid ((a < h + 1 → nn < b + (h + 1) → (D (h + 1 - 1)).key ≤ (D (nn - (h + 1))).key) ∧ (j < m → j < mid → (D (p - j)).key ≤ (D j).key)) := Lib.hid ⟨fun _ _ => by rw [Nat.add_sub_cancel, show nn - (h + 1) = q from by have := HQ.out; omega]; omega, hP.out.2⟩
          go_wp2_with fail
          refine wp_region_ch (w0 := wr) (by kernel_rfl) (by kernel_rfl) (Ch.refl _ _) ?_
          repeat (go_big_quiet_step ((go_at_call 137; exact HK.out _)))
          refine wpQuiet_nil ?_
          rintro wq ⟨⟨_, hcq⟩, rfl⟩
          have HB := Lib.hid (hb.out.keep hcq)
          have hcq2 := (hc.seq hcq)
          clear X0 X1 X2 Y0 Y1 Y2 x0 x1 x2 y0 y1 y2 HK hb hc hcq hcm hw
          go_wp2_with fail
          go_roundw
          case rel => exact ⟨h + 1, j, by go_num, rfl, by omega, by omega, by omega, q4, q5, HP2, HB, hcq2⟩
          case measure => simp [intOf]; omega
      · obtain rfl : i = j := by omega
        have hd1 : decide ((i : Int) < (i : Int)) = false := by simp
        obtain ⟨wo, rfl⟩ : ∃ wo : World, wo = wr := ⟨_, rfl⟩
        obtain ⟨e, he⟩ : ∃ e, nn - i = e := ⟨_, rfl⟩
        have hei : (nn : Int) - (i : Int) = (e : Int) := by have := HP.out; omega
        have hme : m ≤ e := by have := HP.out; omega
        have heb : e ≤ b := by omega
        have HH := Lib.hid (show Halves (rotR D i m e) a i mid e b from halves H1.out H2.out q1 q4 hme heb (by have := HP.out; omega) (fun h1 h2 => by have := hP.out.1 h1 (by omega); rwa [he] at this) (fun h1 h2 => by have := hP.out.2 h1 (by have := HP.out; omega); rwa [show p - i = e - 1 from by have := HP.out; omega] at this))
        have HM := Lib.hid (show mid + m = i + e from by have := HP.out; omega)
        clear he hP hlt q2 H1 H2 q3
        rcases (show (i < m ∧ m < e) ∨ ¬ i < m ∨ (i < m ∧ ¬ m < e) from by omega) with ⟨t1, t2⟩ | t1 | ⟨t1, t2⟩
        all_goals rcases (show (a < i ∧ i < mid) ∨ ¬ a < i ∨ (a < i ∧ ¬ i < mid) from by omega) with ⟨t3, t4⟩ | t3 | ⟨t3, t4⟩
        all_goals rcases (show (mid < e ∧ e < b) ∨ ¬ mid < e ∨ (mid < e ∧ ¬ e < b) from by omega) with ⟨t5, t6⟩ | t5 | ⟨t5, t6⟩
        all_goals try (exfalso; have := HM.out; have := HA.out; omega)
        all_goals
          try first
            | have dA : decide ((i : Int) < (m : Int)) = true := decide_eq_true (by omega)
            | have dA : decide ((i : Int) < (m : Int)) = false := decide_eq_false (by omega)
          try first
            | have dB : decide ((m : Int) < (e : Int)) = true := decide_eq_true (by omega)
            | have dB : decide ((m : Int) < (e : Int)) = false := decide_eq_false (by omega)
          try first
            | have dC : decide ((a : Int) < (i : Int)) = true := decide_eq_true (by omega)
            | have dC : decide ((a : Int) < (i : Int)) = false := decide_eq_false (by omega)
          try first
            | have dD : decide ((i : Int) < (mid : Int)) = true := decide_eq_true (by omega)
            | have dD : decide ((i : Int) < (mid : Int)) = false := decide_eq_false (by omega)
          try first
            | have dE : decide ((mid : Int) < (e : Int)) = true := decide_eq_true (by omega)
            | have dE : decide ((mid : Int) < (e : Int)) = false := decide_eq_false (by omega)
          try first
            | have dF : decide ((e : Int) < (b : Int)) = true := decide_eq_true (by omega)
            | have dF : decide ((e : Int) < (b : Int)) = false := decide_eq_false (by omega)
        -- the exchange
        all_goals first
          | (have T : i < m ∧ m < e := ⟨by assumption, by assumption⟩
             clear T
             go_wp2_with fail
             refine (rotate g N D R n cap i m e _ _ hb.out (by omega) (by omega) (by omega) hn).mono ?_
             rintro x w2 ⟨rfl, hb2, hc2⟩
             have HB := Lib.hid hb2
             have hcA := hc.seqS hc2
             clear hb2 hc2 hb hc hei dA dB hd1)
          | (have HB := Lib.hid (show OpBlk wo g N (rotR D i m e) R n 121 from by
               first
                 | (rw [show i = m from by omega, rotR_left]; exact hb.out)
                 | (rw [show e = m from by omega, rotR_right]; exact hb.out))
             have hcA := hc
             clear hb hc)
        -- the first half
        all_goals first
          | (have T : a < i ∧ i < mid := ⟨by assumption, by assumption⟩
             clear T
             go_wp2_with fail
             refine Calls.mono (IH.out (rotR D i m e) a i mid _ (by have := HA.out; omega) HB.out (by omega) (by omega) (by omega) HH.out.u HH.out.x) ?_
             rintro x w3 ⟨D3, rfl, hb3, hs3, ho3, hc3⟩
             have HB3 := Lib.hid hb3
             have HS3 := Lib.hid hs3
             have HO3 := Lib.hid ho3
             have hcB := hcA.seqS hc3
             clear hb3 hc3 HB hcA hs3 ho3 dC dD
             try clear hd1
             try clear hei)
          | (obtain ⟨D3, hD3⟩ : ∃ D3, rotR D i m e = D3 := ⟨_, rfl⟩
             have HS3 := Lib.hid (show Shuf a mid (rotR D i m e) D3 from by rw [← hD3]; exact Shuf.refl _ _ _)
             have HO3 := Lib.hid (show SortedOn D3 a mid from by
               rw [← hD3]
               exact sorted_glue HH.out.u HH.out.x q1 (by have := HM.out; omega) (by omega))
             rw [hD3] at HB
             have HB3 := HB
             have hcB := hcA
             clear hD3 HB hcA)
        -- the second half
        all_goals
          have HV3 := Lib.hid (sorted_out HS3.out HH.out.v (Nat.le_refl _))
          have HY3 := Lib.hid (sorted_out HS3.out HH.out.y (by have := HM.out; omega))
        all_goals first
          | (have T : mid < e ∧ e < b := ⟨by assumption, by assumption⟩
             clear T
             go_wp2_with fail
             refine Calls.mono (IH.out D3 mid e b _ (by have := HA.out; omega) HB3.out (by omega) (by omega) (by omega) HV3.out HY3.out) ?_
             rintro x w4 ⟨D4, rfl, hb4, hs4, ho4, hc4⟩
             have hcC := hcB.seqS hc4
             have HE := Lib.hid (merge_end HH.out q1 q4 hme heb hmid1 hmid2 HS3.out HO3.out hs4 ho4)
             have HB4 := Lib.hid hb4
             clear hb4 hc4 HB3 hcB hs4 ho4 HS3 HO3 HV3 HY3
             go_wp2_with fail
             go_end0
             exact ⟨D4, rfl, HB4.out, HE.out.1, HE.out.2, hcC⟩)
          | (have HO4 := Lib.hid (sorted_glue HV3.out HY3.out (by have := HM.out; omega) heb (by omega))
             have HE := Lib.hid (merge_end HH.out q1 q4 hme heb hmid1 hmid2 HS3.out HO3.out (Shuf.refl _ _ _) HO4.out)
             clear HS3 HO3 HV3 HY3 HO4
             go_wp2_with fail
             go_end0
             exact ⟨D3, rfl, HB3.out, HE.out.1, HE.out.2, hcB⟩)
theorem merge (g N : Nat) (R : Nat → Value) (n cap : Nat) (hn : n ≤ 1000000) : ∀ (z : Nat) (D : Nat → Opn) (a m b : Nat) (w : World), b - a ≤ z → OpBlk w g N D R n 121 → a < m → m < b → b ≤ n → SortedOn D a m → SortedOn D m b → MergeAt g N R n cap a m b D w := by
  intro z
  induction z with
  | zero => intro D a m b w hz hd h1 h2 h3 h4 h5; omega
  | succ z ih =>
    intro D a m b w hz hd h1 h2 h3 h4 h5
    by_cases c1 : m = a + 1
    · subst c1; exact merge_one g N D R n cap a b w hd h2 h3 hn h5
    · by_cases c2 : b = m + 1
      · subst c2; exact merge_last g N D R n cap a m w hd (by omega) h3 hn h4
      · exact merge_step g N D R n cap a m b w hd (by omega) (by omega) h3 hn h4 h5 fun D' a' m' b' w' hl hd' k1 k2 k3 k4 k5 => ih D' a' m' b' w' (by omega) hd' k1 k2 k3 k4 k5
end Go.Proofs.YtlhfpnkfapghoaaDoor
end

section
/- The library's stable sort of operations by their keys: blocks of twenty, then merges. No condition but each theorem's own. -/
set_option linter.unusedVariables false
set_option linter.unusedSimpArgs false
namespace Go.Proofs.YtlhfpnkfapghoaaDoor
open Go.RowKit

/-! ### Plain -/
/-- Each block of s is in order. -/
def Blocks (D : Nat → Opn) (n s : Nat) : Prop := ∀ c, s ∣ c → SortedOn D c (min (c + s) n)
/-- Below a each block of s is in order, above it each block of r. -/
def Blocks2 (D : Nat → Opn) (n r s a : Nat) : Prop := (∀ c, s ∣ c → c < a → SortedOn D c (c + s)) ∧ (∀ c, r ∣ c → a ≤ c → SortedOn D c (min (c + r) n)) ∧ s ∣ a
theorem mult_gap {s c a : Nat} (h1 : s ∣ c) (h2 : s ∣ a) (h : c < a) : c + s ≤ a := by
  obtain ⟨u, rfl⟩ := h1
  obtain ⟨v, rfl⟩ := h2
  have : u < v := by
    by_cases e : u < v
    · exact e
    · exact absurd h (Nat.not_lt.mpr (Nat.mul_le_mul_left s (by omega)))
  have := Nat.mul_le_mul_left s (show u + 1 ≤ v from this)
  rw [Nat.mul_add, Nat.mul_one] at this
  exact this
theorem Blocks2.start {D : Nat → Opn} {n r : Nat} (h : Blocks D n r) : Blocks2 D n r (2 * r) 0 := ⟨fun c _ h => by omega, fun c hc _ => h c hc, Nat.dvd_zero _⟩
theorem Blocks2.fresh (D : Nat → Opn) (n : Nat) : Blocks2 D n 1 20 0 := ⟨fun c _ h => by omega, fun c _ _ i j h1 h2 h3 => by omega, Nat.dvd_zero _⟩
theorem Blocks2.step {D E : Nat → Opn} {n r s a : Nat} (h : Blocks2 D n r s a) (hs : Shuf a (a + s) D E) (ho : SortedOn E a (a + s)) : Blocks2 E n r s (a + s) := by
  obtain ⟨h1, h2, h3⟩ := h
  refine ⟨fun c hc hl => ?_, fun c hc hl => ?_, (Nat.dvd_add_right h3).mpr (Nat.dvd_refl s)⟩
  · by_cases e : c = a
    · subst e; exact ho
    · have hlt : c < a := by
        by_cases g : c < a
        · exact g
        · have := mult_gap h3 hc (show a < c by omega)
          omega
      have := mult_gap hc h3 hlt
      intro i j k1 k2 k3
      rw [hs.out i (by omega), hs.out j (by omega)]
      exact h1 c hc hlt i j k1 k2 k3
  · intro i j k1 k2 k3
    rw [hs.out i (by omega), hs.out j (by omega)]
    exact h2 c hc (by omega) i j k1 k2 k3
theorem Blocks2.done {D E : Nat → Opn} {n r s a : Nat} (h : Blocks2 D n r s a) (ha : a ≤ n) (hn : n < a + s) (hs : Shuf a n D E) (ho : SortedOn E a n) : Blocks E n s := by
  obtain ⟨h1, h2, h3⟩ := h
  intro c hc i j k1 k2 k3
  by_cases e : c = a
  · subst e; exact ho i j k1 k2 (by omega)
  · by_cases g : c < a
    · have := mult_gap hc h3 g
      rw [hs.out i (by omega), hs.out j (by omega)]
      exact h1 c hc g i j k1 k2 (by omega)
    · have := mult_gap h3 hc (show a < c by omega)
      omega
theorem Blocks2.left {D : Nat → Opn} {n r a : Nat} (h : Blocks2 D n r (2 * r) a) : SortedOn D a (min (a + r) n) :=
  h.2.1 a (Nat.dvd_trans ⟨2, by omega⟩ h.2.2) (Nat.le_refl _)
theorem Blocks2.right {D : Nat → Opn} {n r a : Nat} (h : Blocks2 D n r (2 * r) a) : SortedOn D (a + r) (min (a + r + r) n) :=
  h.2.1 (a + r) ((Nat.dvd_add_right (Nat.dvd_trans ⟨2, by omega⟩ h.2.2)).mpr (Nat.dvd_refl r)) (by omega)
/-- What the sort leaves. -/
def RetSort (g N : Nat) (D : Nat → Opn) (R : Nat → Value) (n : Nat) (w : World) (e : Ending) (w' : World) : Prop := ∃ D', e = .returned (.tuple #[]) ∧ OpBlk w' g N D' R n 121 ∧ Shuf 0 n D D' ∧ SortedOn D' 0 n ∧ Ch (· = g) w w'

set_option maxRecDepth 100000 in
set_option maxHeartbeats 4000000 in
theorem stable_sort (g N : Nat) (D : Nat → Opn) (R : Nat → Value) (n cap : Nat) (w : World) (hd : OpBlk w g N D R n 121) (hn : n ≤ 1000000) :
    Calls Tryd.prog 143 #[.slice (some ⟨g, 0, none⟩) n cap, .int .i64 n, byKeyV] w (RetSort g N D R n w) := by
  have HD := Lib.hid hd
  have hcr := Ch.refl (· = g) w
  have HN := Lib.hid hn
  clear hd
  go_enter Tryd.func143, Tryd.ntmps143
  go_wp2_with fail
  go_loopw [7, 8] (fun x y wr => ∃ (a : Nat) (E : Nat → Opn), x = .int .i64 a ∧ y = .int .i64 (a + 20 : Nat) ∧ a ≤ n ∧ Hid (Blocks2 E n 1 20 a) ∧ Hid (Shuf 0 n D E) ∧ Hid (OpBlk wr g N E R n 121) ∧ Ch (· = g) w wr) (fun x _ _ => n - (intOf x).toNat)
  case atStart => exact ⟨0, D, rfl, rfl, by omega, Lib.hid (Blocks2.fresh D n), Lib.hid (Shuf.refl _ _ _), HD, hcr⟩
  case round =>
    clear HD hcr
    obtain ⟨a, E, rfl, rfl, han, hB, hS, hb, hc⟩ := hrel
    obtain ⟨b, hab⟩ : ∃ b, a + 20 = b := ⟨_, rfl⟩
    have HAB := Lib.hid hab
    rw [hab]
    by_cases hlt : b ≤ n
    · have hd1 : decide ((b : Int) ≤ (n : Int)) = true := decide_eq_true (by omega)
      have hlt0 : a ≤ b := by omega
      clear hab
      go_wp2_with fail
      refine (insertion_sort g N E R n cap a b _ hb.out hlt0 hlt hn).mono ?_
      rintro e w2 ⟨F, rfl, hb2, hs2, ho2, hc2⟩
      have HB := Lib.hid hb2
      have HS := Lib.hid (hS.out.trans (hs2.mono (Nat.zero_le _) hlt))
      have hB2 := Lib.hid (show Blocks2 F n 1 20 b from by
        rw [← HAB.out] at hs2 ho2 ⊢
        exact hB.out.step hs2 ho2)
      have hc3 := hc.seqS hc2
      have hbn : (b : Int) ≤ 1000000 := by omega
      clear hb hc hS hB hb2 hs2 ho2 hc2 hd1
      go_wp2_with fail
      go_roundw
      case rel => exact ⟨b, F, rfl, by go_num, hlt, hB2, HS, HB, hc3⟩
      case measure => have := HAB.out; simp [intOf]; omega
    · have hd1 : decide ((b : Int) ≤ (n : Int)) = false := decide_eq_false (by omega)
      clear hab
      go_wp2_with fail
      refine (insertion_sort g N E R n cap a n _ hb.out han (Nat.le_refl _) hn).mono ?_
      rintro e w2 ⟨F, rfl, hb2, hs2, ho2, hc2⟩
      have HB := Lib.hid hb2
      have HS := Lib.hid (hS.out.trans (hs2.mono (Nat.zero_le _) (Nat.le_refl _)))
      have hB2 := Lib.hid (show Blocks F n 20 from hB.out.done han (by have := HAB.out; omega) hs2 ho2)
      have hc3 := hc.seqS hc2
      clear hb hc hS hB hb2 hs2 ho2 hc2 hd1 hlt han
      go_wp2_with fail
      obtain ⟨wo, hwo⟩ : ∃ wo : World, w2 = wo := ⟨_, rfl⟩
      rw [hwo] at HB hc3 ⊢
      clear hwo
      go_loopw [6] (fun x wr => ∃ (r : Nat) (E : Nat → Opn), x = .int .i64 r ∧ 1 ≤ r ∧ r ≤ 2000000 ∧ Hid (Blocks E n r) ∧ Hid (Shuf 0 n D E) ∧ Hid (OpBlk wr g N E R n 121) ∧ Ch (· = g) w wr) (fun x _ => n - (intOf x).toNat)
      case atStart => exact ⟨20, F, rfl, by omega, by omega, hB2, HS, HB, hc3⟩
      case round =>
        clear HB hc3 hB2 HS
        obtain ⟨r, E, rfl, hr1, hr2, hB, hS, hb, hc⟩ := hrel
        by_cases hlt : r < n
        · have hd1 : decide ((r : Int) < (n : Int)) = true := decide_eq_true (by omega)
          obtain ⟨s, hs⟩ : ∃ s, 2 * r = s := ⟨_, rfl⟩
          have HRS := Lib.hid hs
          have hsi : 2 * (r : Int) = (s : Int) := by omega
          have hsi2 : (r : Int) * 2 = (s : Int) := by omega
          have hs2 : s ≤ 2000000 := by omega
          have hB1 := Lib.hid (show Blocks2 E n r s 0 from by rw [← hs]; exact Blocks2.start hB.out)
          clear hs hB
          go_wp2_with fail
          obtain ⟨wo2, hwo⟩ : ∃ wo2 : World, wr = wo2 := ⟨_, rfl⟩
          rw [hwo] at hb hc ⊢
          clear hwo
          go_loopw [7, 8] (fun x y wr => ∃ (a : Nat) (E : Nat → Opn), x = .int .i64 a ∧ y = .int .i64 (a + s : Nat) ∧ a ≤ n ∧ Hid (Blocks2 E n r s a) ∧ Hid (Shuf 0 n D E) ∧ Hid (OpBlk wr g N E R n 121) ∧ Ch (· = g) w wr) (fun x _ _ => n - (intOf x).toNat)
          case atStart => exact ⟨0, E, rfl, by rw [Nat.zero_add], by omega, hB1, hS, hb, hc⟩
          case round =>
            clear hb hc hB1 hS
            obtain ⟨a, E, rfl, rfl, han, hB, hS, hb, hc⟩ := hrel
            obtain ⟨b, hab⟩ : ∃ b, a + s = b := ⟨_, rfl⟩
            obtain ⟨m, ham⟩ : ∃ m, a + r = m := ⟨_, rfl⟩
            have HAB := Lib.hid (show a + s = b ∧ a + r = m ∧ r + r = s from by have := HRS.out; omega)
            have hmi : (a : Int) + (r : Int) = (m : Int) := by omega
            rw [hab]
            clear hab ham
            by_cases hlt2 : b ≤ n
            · have hd2 : decide ((b : Int) ≤ (n : Int)) = true := decide_eq_true (by omega)
              have HL := Lib.hid (show SortedOn E a m from by
                have h := (show Blocks2 E n r (2 * r) a from by rw [HRS.out]; exact hB.out).left
                rwa [show min (a + r) n = m from by have := HAB.out; omega] at h)
              have HR := Lib.hid (show SortedOn E m b from by
                have h := (show Blocks2 E n r (2 * r) a from by rw [HRS.out]; exact hB.out).right
                rwa [show a + r = m from HAB.out.2.1, show min (m + r) n = b from by have := HAB.out; omega] at h)
              go_wp2_with fail
              refine Calls.mono (merge g N R n cap HN.out (b - a) E a m b _ (Nat.le_refl _) hb.out (by have := HAB.out; omega) (by have := HAB.out; omega) hlt2 HL.out HR.out) ?_
              rintro e w3 ⟨F, rfl, hb2, hs2, ho2, hc2⟩
              have HB := Lib.hid hb2
              have HS := Lib.hid (hS.out.trans (hs2.mono (Nat.zero_le _) hlt2))
              have hB2 := Lib.hid (show Blocks2 F n r s b from by
                rw [← HAB.out.1] at hs2 ho2 ⊢
                exact hB.out.step hs2 ho2)
              have hc3 := hc.seqS hc2
              have hbn : (b : Int) + (s : Int) ≤ 4000000 := by omega
              have hbn0 : (0 : Int) ≤ (b : Int) + (s : Int) := by omega
              clear hb hc hS hB hb2 hs2 ho2 hc2 hd2 HL HR hmi
              go_wp2_with fail
              go_roundw
              case rel => exact ⟨b, F, rfl, by go_num, hlt2, hB2, HS, HB, hc3⟩
              case measure => have := HAB.out; simp [intOf]; omega
            · have hd2 : decide ((b : Int) ≤ (n : Int)) = false := decide_eq_false (by omega)
              by_cases hlt3 : m < n
              · have hd3 : decide ((m : Int) < (n : Int)) = true := decide_eq_true (by omega)
                have HL := Lib.hid (show SortedOn E a m from by
                  have h := (show Blocks2 E n r (2 * r) a from by rw [HRS.out]; exact hB.out).left
                  rwa [show min (a + r) n = m from by have := HAB.out; omega] at h)
                have HR := Lib.hid (show SortedOn E m n from by
                  have h := (show Blocks2 E n r (2 * r) a from by rw [HRS.out]; exact hB.out).right
                  rwa [show a + r = m from HAB.out.2.1, show min (m + r) n = n from by have := HAB.out; omega] at h)
                go_wp2_with fail
                refine Calls.mono (merge g N R n cap HN.out (n - a) E a m n _ (Nat.le_refl _) hb.out (by have := HAB.out; omega) hlt3 (Nat.le_refl _) HL.out HR.out) ?_
                rintro e w3 ⟨F, rfl, hb2, hs2, ho2, hc2⟩
                have HB := Lib.hid hb2
                have HS := Lib.hid (hS.out.trans (hs2.mono (Nat.zero_le _) (Nat.le_refl _)))
                have hB2 := Lib.hid (show Blocks F n s from hB.out.done han (by have := HAB.out; omega) hs2 ho2)
                have hc3 := hc.seqS hc2
                clear hb hc hS hB hb2 hs2 ho2 hc2 hd2 HL HR hmi hd3 hd1
                go_wp2_with fail
                go_roundw
                case rel => exact ⟨s, F, by go_num, by have := HRS.out; omega, hs2, hB2, HS, HB, hc3⟩
                case measure => have := HRS.out; simp [intOf]; omega
              · have hd3 : decide ((m : Int) < (n : Int)) = false := decide_eq_false (by omega)
                have hB2 := Lib.hid (show Blocks E n s from hB.out.done han (by have := HAB.out; omega) (Shuf.refl _ _ _) (by
                  have h := (show Blocks2 E n r (2 * r) a from by rw [HRS.out]; exact hB.out).left
                  rwa [show min (a + r) n = n from by have := HAB.out; omega] at h))
                clear hB
                go_wp2_with fail
                go_roundw
                case rel => exact ⟨s, E, by go_num, by have := HRS.out; omega, hs2, hB2, hS, hb, hc⟩
                case measure => have := HRS.out; simp [intOf]; omega
        · have hd1 : decide ((r : Int) < (n : Int)) = false := decide_eq_false (by omega)
          have HO := Lib.hid (show SortedOn E 0 n from by
            have h := hB.out 0 (Nat.dvd_zero _)
            rwa [show min (0 + r) n = n from by omega] at h)
          clear hB
          go_wp2_with fail
          go_end0
          exact ⟨E, rfl, hb.out, hS.out, HO.out, hc⟩
end Go.Proofs.YtlhfpnkfapghoaaDoor
end

section
/- Maps from ints that a call makes, as functions from a key to what lies at it: made, asked, written, counted, gone through. No condition. -/
set_option linter.unusedVariables false
set_option linter.unusedSimpArgs false
namespace Go.Proofs.YtlhfpnkfapghoaaDoor
open Go.RowKit Go.Maps

/-- An element as it stands. -/
def heldElem (v : Value) : Option (DataW Value × List MemPlace) := some (.held v, [])
theorem heldElem_inv {v u : Value} {ps : List MemPlace} (h : heldElem v = some (.held u, ps)) : v = u := by
  unfold heldElem at h
  cases h
  rfl
abbrev ik (k : Int) : Lit := .int .i64 k
theorem ik_key (k : Int) : WideAt.IsKeyLit (ik k) := trivial
theorem ik_ne {a b : Int} (h : a ≠ b) : ik a ≠ ik b := fun e => h (by cases e; rfl)
/-- A map in which v stands at k. -/
def putM (f : Int → Option Value) (k : Int) (v : Value) : Int → Option Value := fun x => if x = k then some v else f x
/-- Block b is a map of c entries that holds f. -/
def IMap (P : Program) (K : TypeId) (w : World) (b c : Nat) (f : Int → Option Value) : Prop :=
  ∃ D : DataW Value, w.ownsMap P K heldElem b c D ∧ size D = c ∧ (∀ k, has D (ik k) = (f k).isSome) ∧ ∀ k v z, f k = some v → D.atKey (ik k) z = .held v
theorem IMap.made (P : Program) (K : TypeId) (w : World) : IMap P K (w.alloc (.map #[] 0)) w.heap.size 0 fun _ => none :=
  ⟨_, World.ownsMap_made w P K heldElem, rfl, fun _ => rfl, fun _ _ _ h => by cases h⟩
theorem IMap.lt {P : Program} {K : TypeId} {w : World} {b c : Nat} {f : Int → Option Value} (h : IMap P K w b c f) : b < w.heap.size := by
  obtain ⟨D, h, _⟩ := h
  exact h.lt
theorem IMap.ch {S : Nat → Prop} {P : Program} {K : TypeId} {w w' : World} {b c : Nat} {f : Int → Option Value} (h : IMap P K w b c f) (hc : Ch S w w') (hn : ¬ S b) : IMap P K w' b c f := by
  have hlt := h.lt
  obtain ⟨D, ⟨es, clock, hb, r⟩, h2⟩ := h
  exact ⟨D, ⟨es, clock, (hc.block b hlt hn).trans hb, r⟩, h2⟩
theorem IMap.keep {P : Program} {K : TypeId} {w w' : World} {b c : Nat} {f : Int → Option Value} (h : IMap P K w b c f) (hc : Ch nob w w') : IMap P K w' b c f := h.ch hc fun h => h
theorem IMap.at_ {P : Program} {K : TypeId} {w : World} {b c : Nat} {f : Int → Option Value} (h : IMap P K w b c f) (hK : P.underlying K = some (.int .i64)) {T E : TypeId} (hT : P.underlying T = some (.map K E)) {z : Value} (hz : (zeroValue E).run P w = .ok z w) (k : Int) (hk : (Lit.int .i64 k).wf = true) :
    (Instr.lookup T (.map (some b)) (.int .i64 k) true).run P w = .ok (.tuple #[(f k).getD z, .bool (f k).isSome]) w ∧ (Instr.lookup T (.map (some b)) (.int .i64 k) false).run P w = .ok ((f k).getD z) w := by
  obtain ⟨D, ho, _, hh, ha⟩ := h
  obtain ⟨v, ps, hr, hv⟩ := ho.look_ok (int_keyed hK) hT hz (zd := .held z) (zp := []) rfl (keyOf_int_mk hK hk)
  obtain ⟨v2, ps2, hr2, hv2⟩ := ho.lookup (int_keyed hK) hT hz (zd := .held z) (zp := []) rfl (keyOf_int_mk hK hk)
  have hat : D.atKey (ik k) (.held z) = .held ((f k).getD z) := by
    cases e : f k with
    | none => exact atKey_of_not_has (by rw [hh, e]; rfl) _
    | some x => exact ha k x _ e
  rw [hat] at hv hv2
  rw [hr, hr2, hh, heldElem_inv hv, heldElem_inv hv2]
  exact ⟨rfl, rfl⟩
theorem bound_of {P : Program} {K : TypeId} {w : World} {b n : Nat} {D : DataW Value} (h : w.ownsMap P K heldElem b n D) : w.ownsMap P K heldElem b (size D) D := by
  obtain ⟨es, clock, hb, F, _, rfl⟩ := h
  exact ⟨es, clock, hb, F, by simp [size, length_sorted], rfl⟩
theorem IMap.put {P : Program} {K : TypeId} {w : World} {b c : Nat} {f : Int → Option Value} (h : IMap P K w b c f) (hK : P.underlying K = some (.int .i64)) {T E : TypeId} (hT : P.underlying T = some (.map K E)) (hc : c < maxLen) (k : Int) (hk : (Lit.int .i64 k).wf = true) (v : Value) :
    ∃ w', (Instr.mapUpdate T (.map (some b)) (.int .i64 k) v).run P w = .ok () w' ∧ IMap P K w' b (if (f k).isSome then c else c + 1) (putM f k v) ∧ Ch (· = b) w w' := by
  obtain ⟨D, ho, hs, hh, ha⟩ := h
  obtain ⟨w', hr, ho', hg⟩ := ho.update (int_keyed hK) hT hc (keyOf_int_mk hK hk) (d := .held v) (ps := []) rfl
  have hsz : size (D.put (ik k) (.held v)) = if (f k).isSome then c else c + 1 := by rw [size_put (ho.tidy (int_keyed hK)), hh, hs]
  refine ⟨w', hr, ⟨_, hsz ▸ bound_of ho', hsz, fun x => ?_, fun x u z hx => ?_⟩, (Ch.refl _ _).grown hg (fun i _ e => by cases e; rfl)⟩
  · unfold putM
    by_cases e : x = k
    · subst e
      rw [if_pos rfl, has_put_same ho.isMap (ik_key x)]
      rfl
    · rw [if_neg e, has_put_other (ik_ne e), hh]
  · unfold putM at hx
    by_cases e : x = k
    · subst e
      rw [if_pos rfl] at hx
      cases hx
      exact atKey_put_same ho.isMap (ik_key x) _ _
    · rw [if_neg e] at hx
      rw [atKey_put_other (ik_ne e)]
      exact ha x u z hx

/-! ### Gone through -/
/-- .. and r goes through it: 'left' are the keys that are still to come, cnt of them. -/
def IRange (P : Program) (K : TypeId) (w : World) (b r c : Nat) (f : Int → Option Value) (left : Int → Bool) (cnt : Nat) : Prop :=
  ∃ (D : DataW Value) (l : Lit → Bool), w.ranges P K heldElem b r c D l cnt ∧ size D = c ∧ (∀ k, has D (ik k) = (f k).isSome) ∧ (∀ k v z, f k = some v → D.atKey (ik k) z = .held v) ∧ ∀ k, l (ik k) = left k
theorem IRange.ne {P : Program} {K : TypeId} {w : World} {b r c : Nat} {f : Int → Option Value} {left : Int → Bool} {cnt : Nat} (h : IRange P K w b r c f left cnt) : r ≠ b := by
  obtain ⟨D, l, h, _⟩ := h
  exact h.ne
theorem IRange.lt {P : Program} {K : TypeId} {w : World} {b r c : Nat} {f : Int → Option Value} {left : Int → Bool} {cnt : Nat} (h : IRange P K w b r c f left cnt) : b < w.heap.size ∧ r < w.heap.size := by
  obtain ⟨D, l, h, _⟩ := h
  exact ⟨h.owns.lt, h.lt⟩
theorem IRange.left_eq {P : Program} {K : TypeId} {w : World} {b r c : Nat} {f : Int → Option Value} {left : Int → Bool} {cnt : Nat} (h : IRange P K w b r c f left cnt) : w.rangeLeft b r = cnt := by
  obtain ⟨D, l, h, _⟩ := h
  exact h.left_eq
theorem IRange.ch {S : Nat → Prop} {P : Program} {K : TypeId} {w w' : World} {b r c : Nat} {f : Int → Option Value} {left : Int → Bool} {cnt : Nat} (h : IRange P K w b r c f left cnt) (hc : Ch S w w') (hb : ¬ S b) (hr : ¬ S r) : IRange P K w' b r c f left cnt := by
  have hlt := h.lt
  obtain ⟨D, l, ⟨es, clock, since, seen, c0, h1, h2, h3, h4, h5, rest⟩, k⟩ := h
  exact ⟨D, l, ⟨es, clock, since, seen, c0, (hc.block b hlt.1 hb).trans h1, h2, h3, h4, (hc.block r hlt.2 hr).trans h5, rest⟩, k⟩
theorem IMap.range {P : Program} {K : TypeId} {w : World} {b c : Nat} {f : Int → Option Value} (h : IMap P K w b c f) (hK : P.underlying K = some (.int .i64)) {T E : TypeId} (hT : P.underlying T = some (.map K E)) :
    ∃ w', (Instr.range T (.map (some b))).run P w = .ok (.pointer (some ⟨w.heap.size, 0, none⟩)) w' ∧ IRange P K w' b w.heap.size c f (fun k => (f k).isSome) c ∧ Ch nob w w' ∧ w'.heap.size = w.heap.size + 1 := by
  obtain ⟨D, ho, hs, hh, ha⟩ := h
  obtain ⟨w', hr, hg, hg2, hz⟩ := ho.range (int_keyed hK) hT
  exact ⟨w', hr, ⟨D, _, hs ▸ hg, hs, hh, ha, hh⟩, (Ch.refl _ _).grown hg2 (fun i _ e => by cases e), hz⟩
theorem IRange.next {P : Program} {K : TypeId} {w : World} {b r c : Nat} {f : Int → Option Value} {left : Int → Bool} {cnt : Nat} (h : IRange P K w b r c f left cnt) (hK : P.underlying K = some (.int .i64)) (ty : TypeId) :
    (cnt = 0 ∧ (∀ k, left k = false) ∧ (Instr.next (.pointer (some ⟨r, 0, none⟩)) false ty).run P w = .ok (.tuple #[.bool false]) w) ∨
    ∃ k v w' cnt', (Lit.int .i64 k).wf = true ∧ left k = true ∧ f k = some v ∧ (Instr.next (.pointer (some ⟨r, 0, none⟩)) false ty).run P w = .ok (.tuple #[.bool true, .int .i64 k, v]) w' ∧
      IRange P K w' b r c f (fun x => left x && !decide (x = k)) cnt' ∧ cnt' < cnt ∧ Ch (· = r) w w' ∧ w'.heap.size = w.heap.size ∧ (Instr.entry (.pointer (some ⟨r, 0, none⟩))).run P w' = .ok (.tuple #[.int .i64 k, v]) w' := by
  obtain ⟨D, l, hr, hs, hh, ha, hl⟩ := h
  rcases hr.next (int_keyed hK) ty with ⟨h0, h1, h2⟩ | ⟨key, v, kl, y, w', cnt', hkey, hlk, hv, hat, hrun, hrg, hlt, hgr, hsz, hen⟩
  · exact Or.inl ⟨h0, fun k => by rw [← hl, h1], h2⟩
  · obtain ⟨k, rfl, rfl, hwf⟩ := Maps.keyOf_int_inv hK hkey
    have hsome : has D (ik k) = true := has_true_of_atKey hat
    rw [hh] at hsome
    obtain ⟨u, hu⟩ := Option.isSome_iff_exists.1 hsome
    have hyu := hat (.held u)
    rw [ha k u _ hu] at hyu
    have hvu : v = u := by
      unfold heldElem at hv
      cases hv
      cases hyu
      rfl
    subst hvu
    refine Or.inr ⟨k, v, w', cnt', hwf, by rw [← hl]; exact hlk, hu, hrun, ⟨D, _, hrg, hs, hh, ha, fun x => ?_⟩, hlt, (Ch.refl _ _).grown hgr (fun i _ e => by cases e; rfl), hsz, hen⟩
    show (l (ik x) && !(ik x).sameKey (ik k)) = _
    rw [hl]
    by_cases e : x = k
    · subst e
      rw [WideAt.sameKey_self (ik_key x)]
      simp
    · rw [sameKey_ne (ik_ne e)]
      simp [e]

/-! ### At the operations -/
section
variable {P : Program} (w : World) {ops : Array Oper} {rest : List Oper} {o : Oper} {a : Act} {Q : Exit → Act → World → Prop}
theorem wpList_imap_look (hg : o.guard = none) (m x : Operand) (T : TypeId) (hop : o.op = Op.lookup T m x true) (K E : TypeId) (hK : P.underlying K = some (.int .i64)) (hT : P.underlying T = some (.map K E)) (z : Value) (hz : (zeroValue E).run P w = .ok z w)
    (b c : Nat) (f : Int → Option Value) (hm : a.eval m = .map (some b)) (h : IMap P K w b c f) (k : Int) (hx : a.eval x = .int .i64 k) (hk : (Lit.int .i64 k).wf = true)
    (hN : wpList P ops Q rest (a.put o.dst (.tuple #[(f k).getD z, .bool (f k).isSome])) w) : wpList P ops Q (o :: rest) a w := by
  refine wpList_plain hg fun K' hK' => ?_
  have hrun := (h.at_ hK hT hz k hk).1
  unfold Oper.wp
  simp [execOp, hop, hm, hx, hrun, Result.andThen]
  exact hK' _ _ hN
theorem wpList_imap_get (hg : o.guard = none) (m x : Operand) (T : TypeId) (hop : o.op = Op.lookup T m x false) (K E : TypeId) (hK : P.underlying K = some (.int .i64)) (hT : P.underlying T = some (.map K E)) (z : Value) (hz : (zeroValue E).run P w = .ok z w)
    (b c : Nat) (f : Int → Option Value) (hm : a.eval m = .map (some b)) (h : IMap P K w b c f) (k : Int) (hx : a.eval x = .int .i64 k) (hk : (Lit.int .i64 k).wf = true)
    (hN : wpList P ops Q rest (a.put o.dst ((f k).getD z)) w) : wpList P ops Q (o :: rest) a w := by
  refine wpList_plain hg fun K' hK' => ?_
  have hrun := (h.at_ hK hT hz k hk).2
  unfold Oper.wp
  simp [execOp, hop, hm, hx, hrun, Result.andThen]
  exact hK' _ _ hN
theorem wpList_imap_put (hg : o.guard = none) (m x v : Operand) (T : TypeId) (hop : o.op = Op.mapUpdate T m x v) (K E : TypeId) (hK : P.underlying K = some (.int .i64)) (hT : P.underlying T = some (.map K E))
    (b c : Nat) (f : Int → Option Value) (hm : a.eval m = .map (some b)) (h : IMap P K w b c f) (hc : c < maxLen) (k : Int) (hx : a.eval x = .int .i64 k) (hk : (Lit.int .i64 k).wf = true) (u : Value) (hv : a.eval v = u)
    (hN : ∀ w', IMap P K w' b (if (f k).isSome then c else c + 1) (putM f k u) → Ch (· = b) w w' → wpList P ops Q rest (a.put o.dst undef) w') : wpList P ops Q (o :: rest) a w := by
  refine wpList_plain hg fun K' hK' => ?_
  obtain ⟨w', hrun, h1, h2⟩ := h.put hK hT hc k hk u
  unfold Oper.wp
  simp [execOp, hop, hm, hx, hv, hrun, Result.andThen]
  exact hK' _ _ (hN w' h1 h2)
theorem wpList_imap_range (hg : o.guard = none) (m : Operand) (T : TypeId) (hop : o.op = Op.range T m) (K E : TypeId) (hK : P.underlying K = some (.int .i64)) (hT : P.underlying T = some (.map K E))
    (b c : Nat) (f : Int → Option Value) (hm : a.eval m = .map (some b)) (h : IMap P K w b c f)
    (hN : ∀ w', IRange P K w' b w.heap.size c f (fun k => (f k).isSome) c → Ch nob w w' → w'.heap.size = w.heap.size + 1 → wpList P ops Q rest (a.put o.dst (.pointer (some ⟨w.heap.size, 0, none⟩))) w') : wpList P ops Q (o :: rest) a w := by
  refine wpList_plain hg fun K' hK' => ?_
  obtain ⟨w', hrun, h1, h2, h3⟩ := h.range hK hT
  unfold Oper.wp
  simp [execOp, hop, hm, hrun, Result.andThen]
  exact hK' _ _ (hN w' h1 h2 h3)
theorem wpList_imap_next (hg : o.guard = none) (it : Operand) (hop : o.op = Op.next it false) (K : TypeId) (hK : P.underlying K = some (.int .i64))
    (b r c : Nat) (f : Int → Option Value) (left : Int → Bool) (cnt : Nat) (hm : a.eval it = .pointer (some ⟨r, 0, none⟩)) (h : IRange P K w b r c f left cnt)
    (hDone : (∀ k, left k = false) → wpList P ops Q rest (a.put o.dst (.tuple #[.bool false])) w)
    (hMore : ∀ (k : Int) (v : Value) (w' : World) (cnt' : Nat), (Lit.int .i64 k).wf = true → left k = true → f k = some v → IRange P K w' b r c f (fun x => left x && !decide (x = k)) cnt' → cnt' < cnt → Ch (· = r) w w' → w'.heap.size = w.heap.size →
      (Instr.entry (.pointer (some ⟨r, 0, none⟩))).run P w' = .ok (.tuple #[.int .i64 k, v]) w' → wpList P ops Q rest (a.put o.dst (.tuple #[.bool true, .int .i64 k, v])) w') : wpList P ops Q (o :: rest) a w := by
  refine wpList_plain hg fun K' hK' => ?_
  unfold Oper.wp
  rcases h.next hK o.type with ⟨h0, hl, hrun⟩ | ⟨k, v, w', cnt', h1, h2, h3, hrun, h4, h5, h6, h7, h8⟩
  · simp [execOp, hop, hm, hrun, Result.andThen]
    exact hK' _ _ (hDone hl)
  · simp [execOp, hop, hm, hrun, Result.andThen]
    exact hK' _ _ (hMore k v w' cnt' h1 h2 h3 h4 h5 h6 h7 h8)
theorem wpList_imap_len (hg : o.guard = none) (m : Operand) (T : TypeId) (hop : o.op = Op.call { callee := Callee.builtin Builtin.len, args := #[m], argTypes := #[T] }) (K E : TypeId) (hT : P.underlying T = some (.map K E))
    (b c : Nat) (f : Int → Option Value) (hm : a.eval m = .map (some b)) (h : IMap P K w b c f) (hN : wpList P ops Q rest (a.put o.dst (.int .i64 c)) w) : wpList P ops Q (o :: rest) a w := by
  obtain ⟨D, ho, hs, _⟩ := h
  exact wpList_len_own w hg m T hop K E hT heldElem b c D hm ho (by rw [hs]; exact hN)
end
end Go.Proofs.YtlhfpnkfapghoaaDoor
end

section
/- Slices of operations that are read as lists; rows of a call's own that hold operations; the program's sort of such a row. No condition but each theorem's own. -/
set_option linter.unusedVariables false
set_option linter.unusedSimpArgs false
namespace Go.Proofs.YtlhfpnkfapghoaaDoor
open Go.RowKit

/-- A slice value reads as this list of operations; nil and empty ones alike. -/
def Opl (w : World) (v : Value) (xs : List Opn) : Prop :=
  ∃ A c, v = .slice A xs.length c ∧ (xs.length ≤ c ∧ xs.length ≤ 9223372036854775807) ∧ (0 < xs.length → ∃ ad, A = some ad ∧ ∀ j, j < xs.length → w.cell? (ad.add (j * 3)) = some (.bool (xs.getD j opZero).wr) ∧ w.cell? ⟨(ad.add (j * 3)).block, (ad.add (j * 3)).off + 1, none⟩ = some (.int .i64 (xs.getD j opZero).key) ∧ w.cell? ⟨(ad.add (j * 3)).block, (ad.add (j * 3)).off + 2, none⟩ = some (.int .i64 (xs.getD j opZero).val))
theorem Opl.ch {S : Nat → Prop} {w w' : World} {v : Value} {xs : List Opn} (h : Opl w v xs) (hc : Ch S w w') (hn : ∀ b, v.ownBlock = some b → xs ≠ [] → ¬ S b) : Opl w' v xs := by
  obtain ⟨A, c, rfl, hl, hx⟩ := h
  refine ⟨A, c, rfl, hl, fun h0 => ?_⟩
  obtain ⟨ad, rfl, hcell⟩ := hx h0
  refine ⟨ad, rfl, fun j hj => ?_⟩
  have keep : ∀ p v, p.block = ad.block → w.cell? p = some v → w'.cell? p = some v := fun p v hp h1 => by
    have hb := World.block_lt_of_cell? w _ h1
    rw [hp] at hb
    exact (World.cell?_of_block (by rw [hp]; exact hc.block _ hb (hn _ rfl (List.length_pos_iff.1 h0)))).trans h1
  exact ⟨keep _ _ (add_block _ _) (hcell j hj).1, keep _ _ (add_block _ _) (hcell j hj).2.1, keep _ _ (add_block _ _) (hcell j hj).2.2⟩
theorem Opl.keep {w w' : World} {v : Value} {xs : List Opn} (h : Opl w v xs) (hc : Ch nob w w') : Opl w' v xs := h.ch hc (fun _ _ _ h => h)
theorem Opl.shape {w : World} {v : Value} {xs : List Opn} (h : Opl w v xs) : ∃ A c, v = .slice A xs.length c := by
  obtain ⟨A, c, rfl, _, _⟩ := h; exact ⟨A, c, rfl⟩
theorem Opl.at {w : World} {A : Option Addr} {c n : Nat} {xs : List Opn} (h : Opl w (.slice A n c) xs) : n = xs.length ∧ (xs.length ≤ c ∧ xs.length ≤ 9223372036854775807) ∧ ∀ j, j < xs.length → ∃ ad, A = some ad ∧ w.cell? (ad.add (j * 3)) = some (.bool (xs.getD j opZero).wr) ∧ w.cell? ⟨(ad.add (j * 3)).block, (ad.add (j * 3)).off + 1, none⟩ = some (.int .i64 (xs.getD j opZero).key) ∧ w.cell? ⟨(ad.add (j * 3)).block, (ad.add (j * 3)).off + 2, none⟩ = some (.int .i64 (xs.getD j opZero).val) := by
  obtain ⟨A', c', hv, hl, hx⟩ := h
  simp only [Value.slice.injEq] at hv
  obtain ⟨rfl, rfl, rfl⟩ := hv
  refine ⟨rfl, hl, fun j hj => ?_⟩
  obtain ⟨ad, h1, h2⟩ := hx (by omega)
  exact ⟨ad, h1, h2 j hj⟩
theorem Opl.nil (w : World) (A : Option Addr) (c : Nat) : Opl w (.slice A 0 c) [] := ⟨A, c, rfl, by simp, fun h => absurd h (by simp)⟩
theorem add_next (ad : Addr) (j d : Nat) (hd : 0 < d) : (⟨(ad.add j).block, (ad.add j).off + d, none⟩ : Addr) = ad.add (j + d) := by
  unfold Addr.add
  rw [if_neg (show ¬ j + d = 0 by omega)]
  by_cases h : j = 0
  · subst h
    simp
  · rw [if_neg h]
    simp [Nat.add_assoc]
/-- The cells of some operations. -/
def flatO : List Opn → List Value
  | [] => []
  | p :: l => .bool p.wr :: .int .i64 p.key :: .int .i64 p.val :: flatO l
theorem flatO_len (l : List Opn) : (flatO l).length = l.length * 3 := by
  induction l with
  | nil => rfl
  | cons p l ih => simp only [flatO, List.length_cons, ih]; omega
theorem flatO_append (a b : List Opn) : flatO (a ++ b) = flatO a ++ flatO b := by
  induction a with
  | nil => rfl
  | cons p l ih => simp only [List.cons_append, flatO, ih]
theorem flatO_at (l : List Opn) : ∀ j, j < l.length → (flatO l)[j * 3]? = some (.bool (l.getD j opZero).wr) ∧ (flatO l)[j * 3 + 1]? = some (.int .i64 (l.getD j opZero).key) ∧ (flatO l)[j * 3 + 2]? = some (.int .i64 (l.getD j opZero).val) := by
  induction l with
  | nil => intro j h; simp at h
  | cons p l ih =>
    intro j h
    cases j with
    | zero => exact ⟨rfl, rfl, rfl⟩
    | succ j =>
      have := ih j (by simpa using h)
      rw [show (j + 1) * 3 = j * 3 + 3 from by omega]
      simpa [flatO] using this
/-- A row of the call's own as a list of operations. -/
def OwnO (w : World) (base e : Nat) (v : Value) (xs : List Opn) : Prop := w.ownsRow base e 3 v xs.length (flatO xs)
theorem OwnO.opl {w : World} {base e : Nat} {v : Value} {xs : List Opn} (h : OwnO w base e v xs) : Opl w v xs := by
  have h0 := h.2
  rcases h0 with ⟨hv, hn⟩ | ⟨g, cap, cur, hv, hb, hg, hle2, hcap, hsz, htake⟩
  · have : xs = [] := List.eq_nil_of_length_eq_zero hn
    subst this
    exact ⟨none, 0, hv, by simp, fun h => absurd h (by simp)⟩
  · refine ⟨_, _, hv, ⟨hle2, by unfold maxLen at hcap; omega⟩, fun h0 => ⟨_, rfl, fun j hj => ?_⟩⟩
    have hc := World.ownsRow.cells h (g := g) (by rw [hv]; rfl)
    have hf := flatO_at xs j hj
    rw [add_next _ _ _ (by omega), add_next _ _ _ (by omega)]
    exact ⟨hc _ _ hf.1, hc _ _ hf.2.1, hc _ _ hf.2.2⟩
theorem OwnO.nil (w : World) (base e : Nat) : OwnO w base e (.slice none 0 0) [] := World.ownsRow_nil w base e 3
theorem OwnO.grown {w w' : World} {base e : Nat} {v : Value} {xs : List Opn} (h : OwnO w base e v xs) {row : Option Nat} (hg : w.grownBy w' row) (hne : ∀ b, v.ownBlock = some b → row ≠ some b) : OwnO w' base e v xs :=
  World.ownsRow.kept h hg (by
    cases hv : v.ownBlock with
    | none => exact .inl rfl
    | some b => exact .inr fun he => hne b hv he.symm)
theorem OwnO.keep {w w' : World} {base e : Nat} {v : Value} {xs : List Opn} (h : OwnO w base e v xs) (hc : Ch nob w w') : OwnO w' base e v xs := h.grown (grown_of_ch hc none) (fun _ _ h => by cases h)
theorem OwnO.ge {w : World} {base e : Nat} {v : Value} {xs : List Opn} (h : OwnO w base e v xs) (b : Nat) (hb : v.ownBlock = some b) : base ≤ b ∧ b < w.heap.size := World.ownsRow.lt h b hb
theorem OwnO.off {w w' : World} {base e g : Nat} {v : Value} {xs : List Opn} (h : OwnO w base e v xs) (hc : Ch (· = g) w w') (hg : ∀ b, v.ownBlock = some b → b ≠ g) : OwnO w' base e v xs := h.grown (grown_of_ch1 hc) (fun b hb he => hg b hb (by cases he; rfl))
theorem OwnO.alloc {w : World} {base e : Nat} {v : Value} {xs : List Opn} (h : OwnO w base e v xs) (o : Obj) : OwnO (w.alloc o) base e v xs := World.ownsRow.alloc h o
theorem OwnO.len {w : World} {base e : Nat} {v : Value} {xs : List Opn} (h : OwnO w base e v xs) : xs.length ≤ 9223372036854775807 := by
  obtain ⟨_, _, _, h, _⟩ := h.opl; exact h.2
theorem elem_op : ElemOK Tryd.prog 116 121 (.agg #[.bool false, .int .i64 0, .int .i64 0]) 3 24 := ⟨by kernel_rfl, by kernel_rfl⟩
/-- 'append(s, o)'. -/
theorem wpList_append_op {P : Program} {w : World} {ops : Array Oper} {rest : List Oper} {o : Oper} {a : Act} {Q : Exit → Act → World → Prop} (hgd : o.guard = none) (s x : Operand) (t e : TypeId)
    (ho : o.op = .call { callee := .builtin .append, args := #[s, x], argTypes := #[t, t] }) (he : ElemOK P t e (.agg #[.bool false, .int .i64 0, .int .i64 0]) 3 24)
    (base : Nat) (v : Value) (xs : List Opn) (hs : a.eval s = v) (hown : OwnO w base e v xs)
    (g : Nat) (y : Opn) (T : TypeId) (hx : a.eval x = .slice (some ⟨g, 0, none⟩) 1 1) (hb : Blk w g #[.bool y.wr, .int .i64 y.key, .int .i64 y.val] T) (hn : xs.length ≤ 1000000) (hbase : base ≤ w.heap.size)
    (h : ∀ v' w', OwnO w' base e v' (xs ++ [y]) → w.grownBy w' v.ownBlock → wpList P ops Q rest (a.put o.dst v') w') : wpList P ops Q (o :: rest) a w :=
  wpList_append1 hgd s x t e ho (.agg #[.bool false, .int .i64 0, .int .i64 0]) 3 24 he rfl (by decide) (by decide) base v xs.length _ hs hown g _ T hx hb rfl (by intro u hu; simp at hu; rcases hu with rfl | rfl | rfl <;> rfl) (by omega) hbase
    (fun v' w' h1 h2 => h v' w' (by
      unfold OwnO
      rw [flatO_append, List.length_append]
      exact h1) h2)

/-! ### A row in order -/
theorem ops_blk {w : World} {base e : Nat} {v : Value} {xs : List Opn} (h : OwnO w base e v xs) (h0 : xs ≠ []) : ∃ g cap N R, v = .slice (some ⟨g, 0, none⟩) xs.length cap ∧ OpBlk w g N (fun i => xs.getD i opZero) R xs.length e ∧ base ≤ g ∧ xs.length ≤ cap ∧ cap ≤ maxLen ∧ N = cap * 3 := by
  have h1 := h.2
  rcases h1 with ⟨hv, hn⟩ | ⟨g, cap, cur, hv, hg, hb, hle2, hcap, hsz, htake⟩
  · exact absurd (List.eq_nil_of_length_eq_zero hn) h0
  · refine ⟨g, cap, cur.size, fun c => cur[c]?.getD (.bool false), hv, ⟨?_, by omega⟩, hg, hle2, hcap, hsz⟩
    unfold Blk
    rw [hb]
    refine congrArg some ?_
    have : cur = arrOf cur.size (opF (fun i => xs.getD i opZero) (fun c => cur[c]?.getD (.bool false)) xs.length) := by
      apply Array.ext
      · simp [arrOf]
      · intro c h2 h3
        simp only [arrOf, Array.getElem_ofFn]
        unfold opF
        by_cases hc : c < 3 * xs.length
        · rw [if_pos hc]
          have e1 : (flatO xs)[c]? = some cur[c] := by
            rw [← htake, List.getElem?_take_of_lt (by omega), Array.getElem?_toList, Array.getElem?_eq_getElem h2]
          have hf := flatO_at xs (c / 3) (by omega)
          have h4 : c % 3 = 0 ∨ c % 3 = 1 ∨ c % 3 = 2 := by omega
          rcases h4 with h4 | h4 | h4
          · rw [show c / 3 * 3 = c from by omega, e1] at hf
            rw [h4]
            exact Option.some.inj hf.1
          · rw [show c / 3 * 3 + 1 = c from by omega, e1] at hf
            rw [h4]
            exact Option.some.inj hf.2.1
          · rw [show c / 3 * 3 + 2 = c from by omega, e1] at hf
            rw [h4]
            exact Option.some.inj hf.2.2
        · rw [if_neg hc]
          show _ = (cur[c]?).getD (.bool false)
          rw [Array.getElem?_eq_getElem h2]
          rfl
    rw [← this]
theorem blk_ops {w : World} {base e g cap N n : Nat} {D : Nat → Opn} {R : Nat → Value} (h : OpBlk w g N D R n e) (hg : base ≤ g) (hle : n ≤ cap) (hcap : cap ≤ maxLen) (hN : N = cap * 3) : OwnO w base e (.slice (some ⟨g, 0, none⟩) n cap) ((List.range n).map D) := by
  obtain ⟨hb, hN2⟩ := h
  unfold OwnO
  refine ⟨by rw [flatO_len], .inr ⟨g, cap, _, by simp, hg, hb, by simpa using hle, hcap, by rw [arrOf_size]; exact hN, ?_⟩⟩
  apply List.ext_getElem?
  intro c
  rw [List.length_map, List.length_range]
  by_cases hc : c < n * 3
  · rw [List.getElem?_take_of_lt hc, Array.getElem?_toList, arrOf_get _ _ _ (by omega)]
    unfold opF
    rw [if_pos (by omega)]
    have hf := flatO_at ((List.range n).map D) (c / 3) (by simp; omega)
    rw [List.getD_eq_getElem?_getD, List.getElem?_map, List.getElem?_range (by omega)] at hf
    have h4 : c % 3 = 0 ∨ c % 3 = 1 ∨ c % 3 = 2 := by omega
    rcases h4 with h4 | h4 | h4
    · rw [show c / 3 * 3 = c from by omega] at hf
      rw [h4, hf.1]; rfl
    · rw [show c / 3 * 3 + 1 = c from by omega] at hf
      rw [h4, hf.2.1]; rfl
    · rw [show c / 3 * 3 + 2 = c from by omega] at hf
      rw [h4, hf.2.2]; rfl
  · rw [List.getElem?_eq_none (by simp; omega), List.getElem?_eq_none (by rw [flatO_len]; simp; omega)]
/-- In order, by key. -/
def InOrder (l : List Opn) : Prop := l.Pairwise fun x y => x.key ≤ y.key
theorem inOrder_of {D : Nat → Opn} {n : Nat} (h : SortedOn D 0 n) : InOrder ((List.range n).map D) := by
  unfold InOrder
  rw [List.pairwise_map]
  refine List.Pairwise.imp_of_mem (R := (· < ·)) (fun {i j} hi hj hij => ?_) List.pairwise_lt_range
  exact h i j (Nat.zero_le _) hij (List.mem_range.1 hj)
/-- A shuffle holds the same ones. -/
theorem shuf_mem {D E : Nat → Opn} {n : Nat} (h : Shuf 0 n D E) (x : Opn) : x ∈ (List.range n).map E ↔ x ∈ (List.range n).map D := by
  simp only [List.mem_map, List.mem_range]
  constructor
  · rintro ⟨k, hk, rfl⟩
    obtain ⟨j, _, hj, e⟩ := h.mem k (Nat.zero_le _) hk
    exact ⟨j, hj, e.symm⟩
  · rintro ⟨k, hk, rfl⟩
    obtain ⟨j, _, hj, e⟩ := h.symm.mem k (Nat.zero_le _) hk
    exact ⟨j, hj, e.symm⟩
theorem list_is (xs : List Opn) : (List.range xs.length).map (fun i => xs.getD i opZero) = xs := by
  apply List.ext_getElem?
  intro i
  rw [List.getElem?_map]
  by_cases h : i < xs.length
  · rw [List.getElem?_range h, List.getElem?_eq_getElem h, Option.map_some, List.getD_eq_getElem?_getD, List.getElem?_eq_getElem h]
    rfl
  · rw [List.getElem?_eq_none (by simp; omega), List.getElem?_eq_none (by omega)]
    rfl
/-- ys is xs in order by key, where xs has no key twice. -/
def Sorts (xs ys : List Opn) : Prop := ys.length = xs.length ∧ InOrder ys ∧ (∀ x, x ∈ ys ↔ x ∈ xs) ∧ ((xs.map Opn.key).Nodup → (ys.map Opn.key).Nodup)
theorem Sorts.nil : Sorts [] [] := ⟨rfl, List.Pairwise.nil, fun _ => Iff.rfl, fun h => h⟩
theorem sorts_of {xs : List Opn} {E : Nat → Opn} (h : Shuf 0 xs.length (fun i => xs.getD i opZero) E) (hs : SortedOn E 0 xs.length) : Sorts xs ((List.range xs.length).map E) := by
  refine ⟨by simp, inOrder_of hs, fun x => ?_, fun hd => ?_⟩
  · rw [shuf_mem h]
    rw [list_is]
  · have hinj := h.inj (fun i j _ hi _ hj he => by
      have hd2 := hd
      rw [List.Nodup, List.pairwise_map, List.pairwise_iff_getElem] at hd2
      simp only [List.getD_eq_getElem?_getD, List.getElem?_eq_getElem hi, List.getElem?_eq_getElem hj, Option.getD_some] at he
      by_cases e : i = j
      · exact e
      · rcases Nat.lt_or_gt_of_ne e with g | g
        · exact absurd he (hd2 i j hi hj g)
        · exact absurd he.symm (hd2 j i hj hi g))
    rw [List.Nodup, List.pairwise_map, List.pairwise_map]
    refine List.Pairwise.imp_of_mem (R := (· < ·)) (fun {i j} hi hj hij he => ?_) List.pairwise_lt_range
    have := hinj i j (Nat.zero_le _) (List.mem_range.1 hi) (Nat.zero_le _) (List.mem_range.1 hj) he
    omega
/-- Two lists in strict order that hold the same are one. -/
theorem strict_eq : ∀ {l m : List Opn}, l.Pairwise (fun x y => x.key < y.key) → m.Pairwise (fun x y => x.key < y.key) → (∀ x, x ∈ l ↔ x ∈ m) → l = m
  | [], [], _, _, _ => rfl
  | [], y :: m, _, _, h => absurd ((h y).2 (List.mem_cons_self ..)) (by simp)
  | x :: l, [], _, _, h => absurd ((h x).1 (List.mem_cons_self ..)) (by simp)
  | x :: l, y :: m, h1, h2, h => by
    rw [List.pairwise_cons] at h1 h2
    have e : x = y := by
      rcases List.mem_cons.1 ((h x).1 (List.mem_cons_self ..)) with h3 | h3
      · exact h3
      · rcases List.mem_cons.1 ((h y).2 (List.mem_cons_self ..)) with h4 | h4
        · exact h4.symm
        · have := h2.1 x h3
          have := h1.1 y h4
          omega
    subst e
    refine congrArg _ (strict_eq h1.2 h2.2 fun z => ?_)
    constructor
    · intro hz
      rcases List.mem_cons.1 ((h z).1 (List.mem_cons_of_mem _ hz)) with h3 | h3
      · have := h1.1 z hz
        rw [h3] at this
        omega
      · exact h3
    · intro hz
      rcases List.mem_cons.1 ((h z).2 (List.mem_cons_of_mem _ hz)) with h3 | h3
      · have := h2.1 z hz
        rw [h3] at this
        omega
      · exact h3
theorem Sorts.eq {xs ys zs : List Opn} (h : Sorts xs ys) (hd : (xs.map Opn.key).Nodup) (hz : zs.Pairwise fun x y => x.key < y.key) (hm : ∀ x, x ∈ zs ↔ x ∈ xs) : ys = zs := by
  obtain ⟨_, h1, h2, h3⟩ := h
  refine strict_eq ?_ hz (fun x => by rw [h2, hm])
  have h4 := h3 hd
  rw [List.Nodup, List.pairwise_map] at h4
  unfold InOrder at h1
  exact (h1.and h4).imp fun h => by omega

/-! ### The program's sort of a row -/
theorem insertion_none (A : Option Addr) (c : Nat) (cmp : Value) (w : World) : Calls Tryd.prog 145 #[.slice A 0 c, .int .i64 0, .int .i64 0, cmp] w fun e w' => e = .returned (.tuple #[]) ∧ w = w' := by
  go_enter Tryd.func145, Tryd.ntmps145
  go_wp2_with fail
  go_loopw [8] (fun x wr => x = .int .i64 1 ∧ w = wr) (fun x _ => (intOf x).toNat)
  case atStart => exact ⟨rfl, rfl⟩
  case round =>
    obtain ⟨rfl, rfl⟩ := hrel
    go_wp2_with fail
    go_end0
    exact ⟨rfl, rfl⟩
theorem stable_none (A : Option Addr) (c : Nat) (cmp : Value) (w : World) : Calls Tryd.prog 143 #[.slice A 0 c, .int .i64 0, cmp] w fun e w' => e = .returned (.tuple #[]) ∧ w = w' := by
  go_enter Tryd.func143, Tryd.ntmps143
  go_wp2_with fail
  go_loopw [7, 8] (fun x y wr => x = .int .i64 0 ∧ y = .int .i64 20 ∧ w = wr) (fun x _ _ => (intOf x).toNat)
  case atStart => exact ⟨rfl, rfl, rfl⟩
  case round =>
    obtain ⟨rfl, rfl, rfl⟩ := hrel
    go_wp2_with fail
    refine (insertion_none A c cmp _).mono ?_
    rintro e w2 ⟨rfl, rfl⟩
    go_wp2_with fail
    go_loopw [6] (fun x wr => x = .int .i64 20 ∧ w = wr) (fun x _ => (intOf x).toNat)
    case atStart => exact ⟨rfl, rfl⟩
    case round =>
      obtain ⟨rfl, rfl⟩ := hrel
      go_wp2_with fail
      go_end0
      exact ⟨rfl, rfl⟩
theorem sort_call (w : World) (base : Nat) (v : Value) (xs : List Opn) (h : OwnO w base 121 v xs) (hn : xs.length ≤ 1000000) (hb : base ≤ w.heap.size) :
    Calls Tryd.prog 136 #[v, byKeyV] w fun e w' => ∃ ys, e = .returned (.tuple #[]) ∧ OwnO w' base 121 v ys ∧ Sorts xs ys ∧ Ch (fun b => v.ownBlock = some b) w w' := by
  by_cases h0 : xs = []
  · subst h0
    obtain ⟨A, c, hv⟩ := h.opl.shape
    rw [List.length_nil] at hv
    have HO := Lib.hid h
    subst hv
    clear h
    go_enter Tryd.func136, Tryd.ntmps136
    go_wp2_with fail
    refine (stable_none A c _ _).mono ?_
    rintro e w2 ⟨rfl, rfl⟩
    go_wp2_with fail
    go_end0
    exact ⟨[], rfl, HO.out, Sorts.nil, Ch.refl _ _⟩
  · obtain ⟨g, cap, N, R, rfl, hblk, hg, hle, hcap, hN⟩ := ops_blk h h0
    obtain ⟨n, hn2⟩ : ∃ n, xs.length = n := ⟨_, rfl⟩
    have HN := Lib.hid hn2
    rw [hn2] at hblk hle hn ⊢
    have HB := Lib.hid hblk
    have HF := Lib.hid (And.intro hg (And.intro hle (And.intro hcap hN)))
    clear h h0 hblk hn2 hg hle hcap hN
    go_enter Tryd.func136, Tryd.ntmps136
    go_wp2_with fail
    refine (stable_sort g N _ R n cap _ HB.out hn).mono ?_
    rintro e w2 ⟨E, rfl, hb2, hs2, ho2, hc2⟩
    have HE := Lib.hid (show Sorts xs ((List.range n).map E) from by
      rw [← HN.out] at hs2 ho2 ⊢
      exact sorts_of hs2 ho2)
    have HO := Lib.hid (blk_ops hb2 HF.out.1 HF.out.2.1 HF.out.2.2.1 HF.out.2.2.2)
    have hc3 : Ch (fun b => (Value.slice (some ⟨g, 0, none⟩) n cap).ownBlock = some b) w w2 := hc2.mono (fun i _ hi => by rw [show i = g from hi]; rfl)
    clear hb2 hs2 ho2 hc2
    go_wp2_with fail
    go_end0
    exact ⟨_, rfl, HO.out, HE.out, hc3⟩
/-- What the sort of a row leaves. -/
def RetOps (w : World) (base : Nat) (v : Value) (xs : List Opn) (e : Ending) (w' : World) : Prop := ∃ ys, e = .returned v ∧ OwnO w' base 121 v ys ∧ Sorts xs ys ∧ Ch (fun b => v.ownBlock = some b) w w'
theorem by_key_row (w : World) (base : Nat) (v : Value) (xs : List Opn) (h : OwnO w base 121 v xs) (hn : xs.length ≤ 1000000) (hb : base ≤ w.heap.size) :
    Calls Tryd.prog 118 #[v] w (RetOps w base v xs) := by
  obtain ⟨A, c, hv⟩ := h.opl.shape
  have HO := Lib.hid h
  have HN := Lib.hid hn
  have HB := Lib.hid hb
  obtain ⟨n, hn2⟩ : ∃ n, xs.length = n := ⟨_, rfl⟩
  rw [hn2] at hv
  subst hv
  clear h hn hn2 hb
  go_enter Tryd.func118, Tryd.ntmps118
  go_wp2_with fail
  refine (sort_call _ base _ xs HO.out HN.out HB.out).mono ?_
  rintro e w2 ⟨ys, rfl, ho2, hs2, hc2⟩
  have HO2 := Lib.hid ho2
  have HS := Lib.hid hs2
  clear ho2 hs2
  go_wp2_with fail
  go_ret
  exact ⟨ys, rfl, HO2.out, HS.out, hc2⟩
end Go.Proofs.YtlhfpnkfapghoaaDoor
end

section
/- The program's account of a transaction: is it steady? No condition but each theorem's own. -/
set_option linter.unusedVariables false
set_option linter.unusedSimpArgs false
namespace Go.Proofs.YtlhfpnkfapghoaaDoor
open Go.RowKit Go.Maps

/-- The last one of some key, of the first i. -/
def lastAt (xs : List Opn) : Nat → Int → Option Opn
  | 0, _ => none
  | i + 1, k => if (xs.getD i opZero).key = k then some (xs.getD i opZero) else lastAt xs i k
def steadyAt (xs : List Opn) (i : Nat) : Bool := match lastAt xs i (xs.getD i opZero).key with
  | some o => (xs.getD i opZero).wr || o.val == (xs.getD i opZero).val
  | none => true
def steadyB (xs : List Opn) : Bool := (List.range xs.length).all (steadyAt xs)
theorem steady_no {xs : List Opn} {i : Nat} (hi : i < xs.length) (h : steadyAt xs i = false) : steadyB xs = false := by
  unfold steadyB
  rw [List.all_eq_false]
  exact ⟨i, List.mem_range.2 hi, by simp [h]⟩
theorem steady_all {xs : List Opn} (h : ∀ i, i < xs.length → steadyAt xs i = true) : steadyB xs = true := by
  unfold steadyB
  rw [List.all_eq_true]
  intro i hi
  exact h i (List.mem_range.1 hi)
def KeysOk (xs : List Opn) : Prop := ∀ i, i < xs.length → (Lit.int .i64 (xs.getD i opZero).key).wf = true
def lastF (xs : List Opn) (i : Nat) : Int → Option Value := fun k => (lastAt xs i k).map fun o => .int .i64 o.val
theorem lastF_succ (xs : List Opn) (i : Nat) (x : Opn) (h : xs.getD i opZero = x) : putM (lastF xs i) x.key (.int .i64 x.val) = lastF xs (i + 1) := by
  funext k
  unfold putM lastF
  show _ = Option.map _ (if (xs.getD i opZero).key = k then some (xs.getD i opZero) else lastAt xs i k)
  rw [h]
  by_cases e : k = x.key
  · subst e
    rw [if_pos rfl, if_pos rfl]
    rfl
  · rw [if_neg e, if_neg (fun e2 => e e2.symm)]
theorem under_int : Tryd.prog.underlying 3 = some (.int .i64) := by kernel_rfl
theorem under_mii : Tryd.prog.underlying 156 = some (.map 3 3) := by kernel_rfl
theorem zero_i (w : World) : (zeroValue 3).run Tryd.prog w = .ok (.int .i64 0) w := by kernel_rfl

set_option maxHeartbeats 2000000 in
theorem steady (w : World) (v : Value) (xs : List Opn) (p q r : Int) (hv : Opl w v xs) (hk : KeysOk xs) (hn : xs.length ≤ 1000000) :
    Calls Tryd.prog 119 #[.agg #[.int .i64 p, .int .i64 q, .int .i64 r, v]] w fun e w' => e = .returned (.bool (steadyB xs)) ∧ Ch nob w w' := by
  obtain ⟨A, cp, rfl⟩ := hv.shape
  have HV := Lib.hid hv
  have HK := Lib.hid hk
  have hmm := @run_makeMap Tryd.prog
  obtain ⟨n, hn2⟩ : ∃ n, xs.length = n := ⟨_, rfl⟩
  have HN := Lib.hid hn2
  rw [hn2] at hn HV ⊢
  have hc0 : Ch nob w ((w.alloc (.cells #[.int .i64 p, .int .i64 q, .int .i64 r, .slice A n cp] 118)).alloc (.map #[] 0)) := ((Ch.refl _ _).alloc _).alloc _
  have hm0 : IMap Tryd.prog 3 ((w.alloc (.cells #[.int .i64 p, .int .i64 q, .int .i64 r, .slice A n cp] 118)).alloc (.map #[] 0)) (w.heap.size + 1) 0 (lastF xs 0) := by
    have := IMap.made Tryd.prog 3 (w.alloc (.cells #[.int .i64 p, .int .i64 q, .int .i64 r, .slice A n cp] 118))
    rw [show lastF xs 0 = fun _ => none from rfl]
    simpa using this
  clear hv hk hn2
  go_enter Tryd.func119, Tryd.ntmps119
  go_wp2_with fail
  go_loopw [12] (fun x wr => ∃ i c : Nat, x = .int .i64 i ∧ i ≤ n ∧ c ≤ i ∧ Hid (IMap Tryd.prog 3 wr (w.heap.size + 1) c (lastF xs i)) ∧ Hid (∀ j, j < i → steadyAt xs j = true) ∧ Ch nob w wr) (fun x _ => n - (intOf x).toNat)
  case atStart => exact ⟨0, 0, rfl, Nat.zero_le _, Nat.le_refl _, Lib.hid hm0, Lib.hid (fun j hj => by omega), hc0⟩
  case round =>
    clear hm0 hc0 hmm
    obtain ⟨i, c, rfl, hi, hci, hm, hst, hc⟩ := hrel
    by_cases hlt : i < n
    · have hd : decide ((i : Int) < (n : Int)) = true := decide_eq_true (by omega)
      obtain ⟨ad, rfl, hx0, hx1, hx2⟩ := (HV.out.keep hc).at.2.2 i (by rw [HN.out]; exact hlt)
      have hwf := HK.out i (by rw [HN.out]; exact hlt)
      obtain ⟨x, hx⟩ : ∃ x, xs.getD i opZero = x := ⟨_, rfl⟩
      rw [hx] at hx0 hx1 hx2 hwf
      have HS := Lib.hid (lastF_succ xs i x hx)
      have HX := Lib.hid hx
      have HA := Lib.hid (show steadyAt xs i = (match lastAt xs i x.key with | some o => x.wr || o.val == x.val | none => true) from by unfold steadyAt; rw [hx])
      have HI := Lib.hid (show i < xs.length from by rw [HN.out]; exact hlt)
      obtain ⟨xw, xk, xv⟩ := x
      have hm1 : IMap Tryd.prog 3 (wr.alloc (.cells #[.bool xw, .int .i64 xk, .int .i64 xv] 121)) (w.heap.size + 1) c (lastF xs i) := hm.out.keep ((Ch.refl _ _).alloc _)
      have hc2 : Ch nob w (wr.alloc (.cells #[.bool xw, .int .i64 xk, .int .i64 xv] 121)) := hc.alloc _
      clear hx hm hc
      have hlf : lastF xs i xk = (lastAt xs i xk).map fun o => .int .i64 o.val := rfl
      have hgo : ∀ w1, Ch nob w w1 → steadyAt xs i = true → IMap Tryd.prog 3 w1 (w.heap.size + 1) (if (lastF xs i xk).isSome then c else c + 1) (putM (lastF xs i) xk (.int .i64 xv)) → ∃ c : Nat, c ≤ i + 1 ∧ Hid (IMap Tryd.prog 3 w1 (w.heap.size + 1) c (lastF xs (i + 1))) ∧ Hid (∀ j, j < i + 1 → steadyAt xs j = true) ∧ Ch nob w w1 := fun w1 h1 h2 h3 =>
        ⟨(if (lastF xs i xk).isSome then c else c + 1), by split <;> omega, Lib.hid (by rw [← HS.out]; exact h3), Lib.hid (fun j hj => by
          by_cases e : j = i
          · rw [e]; exact h2
          · exact hst.out j (by omega)), h1⟩
      have HG := Lib.hid hgo
      clear hgo
      cases hL : lastAt xs i xk with
      | none =>
        rw [hL, Option.map_none] at hlf
        have HT := Lib.hid (show steadyAt xs i = true from by rw [HA.out]; show (match lastAt xs i xk with | some o => xw || o.val == xv | none => true) = true; rw [hL])
        have HL := Lib.hid hlf
        clear hL hlf
        go_wp2_with (first
          | (at_lookup; refine wpList_imap_look _ rfl _ _ 156 rfl 3 3 under_int under_mii _ (zero_i _) _ _ _ rfl hm1 _ rfl hwf ?_; rw [HL.out]; simp only [Option.getD_none, Option.getD_some, Option.isSome_none, Option.isSome_some])
          | (at_mapUpdate; refine wpList_imap_put _ rfl _ _ _ 156 rfl 3 3 under_int under_mii _ _ _ rfl hm1 (by unfold maxLen; omega) _ rfl hwf (.int .i64 xv) rfl ?_; intro w1 hm2 hc3))
        obtain ⟨c', g1, g2, g3, g4⟩ := HG.out w1 (hc2.fresh hc3 (by omega)) HT.out hm2
        exact ⟨⟨i + 1, c', by go_num, by omega, g1, g2, g3, g4⟩, by simp [intOf]; omega⟩
      | some o =>
        rw [hL, Option.map_some] at hlf
        have HT0 := Lib.hid (show steadyAt xs i = (xw || o.val == xv) from by rw [HA.out]; show (match lastAt xs i xk with | some o => xw || o.val == xv | none => true) = _; rw [hL])
        obtain ⟨ov, hov⟩ : ∃ ov, o.val = ov := ⟨_, rfl⟩
        rw [hov] at hlf HT0
        have HL := Lib.hid hlf
        clear hL hlf hov
        cases xw with
        | true =>
          have HT := Lib.hid (show steadyAt xs i = true from by rw [HT0.out]; rfl)
          go_wp2_with (first
            | (at_lookup; refine wpList_imap_look _ rfl _ _ 156 rfl 3 3 under_int under_mii _ (zero_i _) _ _ _ rfl hm1 _ rfl hwf ?_; rw [HL.out]; simp only [Option.getD_none, Option.getD_some, Option.isSome_none, Option.isSome_some])
            | (at_mapUpdate; refine wpList_imap_put _ rfl _ _ _ 156 rfl 3 3 under_int under_mii _ _ _ rfl hm1 (by unfold maxLen; omega) _ rfl hwf (.int .i64 xv) rfl ?_; intro w1 hm2 hc3))
          obtain ⟨c', g1, g2, g3, g4⟩ := HG.out w1 (hc2.fresh hc3 (by omega)) HT.out hm2
          exact ⟨⟨i + 1, c', by go_num, by omega, g1, g2, g3, g4⟩, by simp [intOf]; omega⟩
        | false =>
          by_cases he : ov = xv
          · have hne : (ov != xv) = false := by rw [he]; exact bne_self_eq_false xv
            have HT := Lib.hid (show steadyAt xs i = true from by rw [HT0.out, he]; simp)
            clear he
            go_wp2_with (first
              | (at_lookup; refine wpList_imap_look _ rfl _ _ 156 rfl 3 3 under_int under_mii _ (zero_i _) _ _ _ rfl hm1 _ rfl hwf ?_; rw [HL.out]; simp only [Option.getD_none, Option.getD_some, Option.isSome_none, Option.isSome_some])
              | (at_mapUpdate; refine wpList_imap_put _ rfl _ _ _ 156 rfl 3 3 under_int under_mii _ _ _ rfl hm1 (by unfold maxLen; omega) _ rfl hwf (.int .i64 xv) rfl ?_; intro w1 hm2 hc3))
            obtain ⟨c', g1, g2, g3, g4⟩ := HG.out w1 (hc2.fresh hc3 (by omega)) HT.out hm2
            exact ⟨⟨i + 1, c', by go_num, by omega, g1, g2, g3, g4⟩, by simp [intOf]; omega⟩
          · have hne : (ov != xv) = true := by simp [he]
            have HF := Lib.hid (show steadyB xs = false from steady_no HI.out (by rw [HT0.out]; simp [he]))
            clear he
            go_wp2_with (first
              | (at_lookup; refine wpList_imap_look _ rfl _ _ 156 rfl 3 3 under_int under_mii _ (zero_i _) _ _ _ rfl hm1 _ rfl hwf ?_; rw [HL.out]; simp only [Option.getD_none, Option.getD_some, Option.isSome_none, Option.isSome_some])
              | (at_mapUpdate; refine wpList_imap_put _ rfl _ _ _ 156 rfl 3 3 under_int under_mii _ _ _ rfl hm1 (by unfold maxLen; omega) _ rfl hwf (.int .i64 xv) rfl ?_; intro w1 hm2 hc3))
            go_ret
            exact ⟨ret_bool HF.out.symm, hc2⟩
    · have hd : decide ((i : Int) < (n : Int)) = false := decide_eq_false (by omega)
      have HF := Lib.hid (show steadyB xs = true from steady_all (fun j hj => hst.out j (by have := HN.out; omega)))
      go_wp2_with fail
      go_ret
      exact ⟨ret_bool HF.out.symm, hc⟩
end Go.Proofs.YtlhfpnkfapghoaaDoor
end

section
/- The program's account of a transaction: what is read of others. No condition but each theorem's own. -/
set_option linter.unusedVariables false
set_option linter.unusedSimpArgs false
namespace Go.Proofs.YtlhfpnkfapghoaaDoor
open Go.RowKit Go.Maps

/-- Is the i-th one the first one of its key, and a read? -/
def readAt (xs : List Opn) (i : Nat) : Bool := (lastAt xs i (xs.getD i opZero).key).isNone && !(xs.getD i opZero).wr
def readsTo (xs : List Opn) : Nat → List Opn
  | 0 => []
  | i + 1 => if readAt xs i then readsTo xs i ++ [xs.getD i opZero] else readsTo xs i
theorem readsTo_len (xs : List Opn) : ∀ i, (readsTo xs i).length ≤ i
  | 0 => Nat.le_refl _
  | i + 1 => by
    have := readsTo_len xs i
    unfold readsTo
    split
    · rw [List.length_append]; simp; omega
    · omega
theorem readsTo_succ (xs : List Opn) (i : Nat) : readsTo xs (i + 1) = if readAt xs i then readsTo xs i ++ [xs.getD i opZero] else readsTo xs i := rfl
def seenF (xs : List Opn) (i : Nat) : Int → Option Value := fun k => (lastAt xs i k).map fun _ => .agg #[]
theorem seenF_succ (xs : List Opn) (i : Nat) (x : Opn) (h : xs.getD i opZero = x) : putM (seenF xs i) x.key (.agg #[]) = seenF xs (i + 1) := by
  funext k
  unfold putM seenF
  show _ = Option.map _ (if (xs.getD i opZero).key = k then some (xs.getD i opZero) else lastAt xs i k)
  rw [h]
  by_cases e : k = x.key
  · subst e
    rw [if_pos rfl, if_pos rfl]
    rfl
  · rw [if_neg e, if_neg (fun e2 => e e2.symm)]
theorem under_mis : Tryd.prog.underlying 177 = some (.map 3 158) := by kernel_rfl
theorem zero_s (w : World) : (zeroValue 158).run Tryd.prog w = .ok (.agg #[]) w := by kernel_rfl
theorem OwnO.base {w : World} {base base' e : Nat} {v : Value} {xs : List Opn} (h : OwnO w base e v xs) (hb : base' ≤ base) : OwnO w base' e v xs := by
  obtain ⟨h1, h2⟩ := h
  refine ⟨h1, ?_⟩
  rcases h2 with h2 | ⟨g, cap, cur, k1, k2, k3⟩
  · exact .inl h2
  · exact .inr ⟨g, cap, cur, k1, Nat.le_trans hb k2, k3⟩
theorem ch_of_grown {w w' : World} {row : Option Nat} (h : w.grownBy w' row) : Ch (fun k => row = some k) w w' := (Ch.refl _ _).grown h fun _ _ e => e
/-- A fresh row of operations, sorted out of these. -/
def RetRow (w : World) (xs : List Opn) (e : Ending) (w' : World) : Prop := ∃ v ys, e = .returned v ∧ OwnO w' w.heap.size 121 v ys ∧ Sorts xs ys ∧ Ch nob w w'

set_option maxRecDepth 100000 in
set_option maxHeartbeats 2000000 in
theorem reads (w : World) (v : Value) (xs : List Opn) (p q r : Int) (hv : Opl w v xs) (hk : KeysOk xs) (hn : xs.length ≤ 1000000) :
    Calls Tryd.prog 120 #[.agg #[.int .i64 p, .int .i64 q, .int .i64 r, v]] w (RetRow w (readsTo xs xs.length)) := by
  obtain ⟨A, cp, rfl⟩ := hv.shape
  have HV := Lib.hid hv
  have HK := Lib.hid hk
  have hmm := @run_makeMap Tryd.prog
  obtain ⟨n, hn2⟩ : ∃ n, xs.length = n := ⟨_, rfl⟩
  have HN := Lib.hid hn2
  rw [hn2] at hn HV ⊢
  have hc0 : Ch nob w ((w.alloc (.cells #[.int .i64 p, .int .i64 q, .int .i64 r, .slice A n cp] 118)).alloc (.map #[] 0)) := ((Ch.refl _ _).alloc _).alloc _
  have hm0 : IMap Tryd.prog 3 ((w.alloc (.cells #[.int .i64 p, .int .i64 q, .int .i64 r, .slice A n cp] 118)).alloc (.map #[] 0)) (w.heap.size + 1) 0 (seenF xs 0) := by
    have := IMap.made Tryd.prog 3 (w.alloc (.cells #[.int .i64 p, .int .i64 q, .int .i64 r, .slice A n cp] 118))
    rw [show seenF xs 0 = fun _ => none from rfl]
    simpa using this
  have ho0 : OwnO ((w.alloc (.cells #[.int .i64 p, .int .i64 q, .int .i64 r, .slice A n cp] 118)).alloc (.map #[] 0)) (w.heap.size + 2) 121 (.slice none 0 0) (readsTo xs 0) := OwnO.nil _ _ _
  have hz0 : w.heap.size + 2 ≤ ((w.alloc (.cells #[.int .i64 p, .int .i64 q, .int .i64 r, .slice A n cp] 118)).alloc (.map #[] 0)).heap.size := by simp
  clear hv hk hn2
  go_enter Tryd.func120, Tryd.ntmps120
  go_wp2_with fail
  go_loopw [13, 4] (fun x y wr => ∃ i c : Nat, x = .int .i64 i ∧ i ≤ n ∧ c ≤ i ∧ Hid (IMap Tryd.prog 3 wr (w.heap.size + 1) c (seenF xs i)) ∧ Hid (OwnO wr (w.heap.size + 2) 121 y (readsTo xs i)) ∧ w.heap.size + 2 ≤ wr.heap.size ∧ Ch nob w wr) (fun x _ _ => n - (intOf x).toNat)
  case atStart => exact ⟨0, 0, rfl, Nat.zero_le _, Nat.le_refl _, Lib.hid hm0, Lib.hid ho0, hz0, hc0⟩
  case round =>
    clear hm0 hc0 hmm ho0 hz0
    obtain ⟨i, c, rfl, hi, hci, hm, ho, hz, hc⟩ := hrel
    by_cases hlt : i < n
    · have hd : decide ((i : Int) < (n : Int)) = true := decide_eq_true (by omega)
      obtain ⟨ad, rfl, hx0, hx1, hx2⟩ := (HV.out.keep hc).at.2.2 i (by rw [HN.out]; exact hlt)
      have hwf := HK.out i (by rw [HN.out]; exact hlt)
      obtain ⟨x, hx⟩ : ∃ x, xs.getD i opZero = x := ⟨_, rfl⟩
      rw [hx] at hx0 hx1 hx2 hwf
      have HS := Lib.hid (seenF_succ xs i x hx)
      have HA := Lib.hid (show readAt xs i = ((lastAt xs i x.key).isNone && !x.wr) from by unfold readAt; rw [hx])
      have HX := Lib.hid hx
      obtain ⟨xw, xk, xv⟩ := x
      have hc1 : Ch nob wr (wr.alloc (.cells #[.bool xw, .int .i64 xk, .int .i64 xv] 121)) := (Ch.refl _ _).alloc _
      have hc12 : Ch nob wr ((wr.alloc (.cells #[.bool xw, .int .i64 xk, .int .i64 xv] 121)).alloc (.cells #[] 158)) := hc1.alloc _
      have hm1 := hm.out.keep hc1
      have hm2 := hm.out.keep hc12
      have ho2 := Lib.hid (ho.out.keep hc12)
      have hc2 := hc.seq hc12
      have HGE := Lib.hid ho.out.ge
      clear hx hm hc ho
      have hlf : seenF xs i xk = (lastAt xs i xk).map fun _ => .agg #[] := rfl
      have hgo : ∀ w1, IMap Tryd.prog 3 w1 (w.heap.size + 1) (if (seenF xs i xk).isSome then c else c + 1) (putM (seenF xs i) xk (.agg #[])) → ∃ c : Nat, c ≤ i + 1 ∧ Hid (IMap Tryd.prog 3 w1 (w.heap.size + 1) c (seenF xs (i + 1))) := fun w1 h3 =>
        ⟨(if (seenF xs i xk).isSome then c else c + 1), by split <;> omega, Lib.hid (by rw [← HS.out]; exact h3)⟩
      have HG := Lib.hid hgo
      clear hgo hc1 hc12
      cases hL : lastAt xs i xk with
      | some o =>
        rw [hL, Option.map_some] at hlf
        have HT := Lib.hid (show readAt xs i = false from by rw [HA.out]; show ((lastAt xs i xk).isNone && !xw) = false; rw [hL]; rfl)
        have HL := Lib.hid hlf
        clear hL hlf
        go_wp2_with (first
          | (at_lookup; refine wpList_imap_look _ rfl _ _ 177 rfl 3 158 under_int under_mis _ (zero_s _) _ _ _ rfl hm1 _ rfl hwf ?_; rw [HL.out]; simp only [Option.getD_none, Option.getD_some, Option.isSome_none, Option.isSome_some])
          | (at_mapUpdate; refine wpList_imap_put _ rfl _ _ _ 177 rfl 3 158 under_int under_mis _ _ _ rfl hm2 (by unfold maxLen; omega) _ rfl hwf (.agg #[]) rfl ?_; intro w1 hm3 hc3))
        obtain ⟨c', g1, g2⟩ := HG.out w1 hm3
        have hc4 := hc2.fresh hc3 (by omega)
        have hw4 := hc3.size
        simp at hw4
        exact ⟨⟨i + 1, c', by go_num, by omega, g1, g2, Lib.hid (by rw [readsTo_succ, HT.out]; exact ho2.out.off hc3 (fun b hb => by have := (ho2.out.ge b hb).1; omega)), by omega, hc4⟩, by simp [intOf]; omega⟩
      | none =>
        rw [hL, Option.map_none] at hlf
        have HT0 := Lib.hid (show readAt xs i = !xw from by rw [HA.out]; show ((lastAt xs i xk).isNone && !xw) = _; rw [hL]; rfl)
        have HL := Lib.hid hlf
        clear hL hlf
        cases xw with
        | true =>
          have HT := Lib.hid (show readAt xs i = false from HT0.out)
          go_wp2_with (first
            | (at_lookup; refine wpList_imap_look _ rfl _ _ 177 rfl 3 158 under_int under_mis _ (zero_s _) _ _ _ rfl hm1 _ rfl hwf ?_; rw [HL.out]; simp only [Option.getD_none, Option.getD_some, Option.isSome_none, Option.isSome_some])
            | (at_mapUpdate; refine wpList_imap_put _ rfl _ _ _ 177 rfl 3 158 under_int under_mis _ _ _ rfl hm2 (by unfold maxLen; omega) _ rfl hwf (.agg #[]) rfl ?_; intro w1 hm3 hc3))
          obtain ⟨c', g1, g2⟩ := HG.out w1 hm3
          have hc4 := hc2.fresh hc3 (by omega)
          have hw4 := hc3.size
          simp at hw4
          exact ⟨⟨i + 1, c', by go_num, by omega, g1, g2, Lib.hid (by rw [readsTo_succ, HT.out]; exact ho2.out.off hc3 (fun b hb => by have := (ho2.out.ge b hb).1; omega)), by omega, hc4⟩, by simp [intOf]; omega⟩
        | false =>
          have HT := Lib.hid (show readAt xs i = true from HT0.out)
          obtain ⟨w2, hw2⟩ : ∃ w2, ((wr.alloc (.cells #[.bool false, .int .i64 xk, .int .i64 xv] 121)).alloc (.cells #[] 158)) = w2 := ⟨_, rfl⟩
          have HW := Lib.hid hw2
          have hnb := Lib.hid (Blk.new w2 #[.bool false, .int .i64 xk, .int .i64 xv] 121)
          have ho3 := Lib.hid (ho2.out.alloc (.cells #[.bool false, .int .i64 xk, .int .i64 xv] 121))
          have hxo := Lib.hid (((Blk.new wr #[.bool false, .int .i64 xk, .int .i64 xv] 121).alloc (.cells #[] 158)).alloc (.cells #[.bool false, .int .i64 xk, .int .i64 xv] 121))
          have hrl := readsTo_len xs i
          rw [hw2] at ho3 hm2
          have hm3 := hm2.keep ((Ch.refl _ _).alloc (.cells #[.bool false, .int .i64 xk, .int .i64 xv] 121))
          rw [hw2] at hc2
          have hc3 := hc2.alloc (.cells #[.bool false, .int .i64 xk, .int .i64 xv] 121)
          rw [← hw2] at hnb ho3 hm3 hc3
          clear hw2
          go_wp2_with (first
            | (at_lookup; refine wpList_imap_look _ rfl _ _ 177 rfl 3 158 under_int under_mis _ (zero_s _) _ _ _ rfl hm1 _ rfl hwf ?_; rw [HL.out]; simp only [Option.getD_none, Option.getD_some, Option.isSome_none, Option.isSome_some])
            | (at_builtin; refine wpList_append_op rfl (.tmp 31) (.tmp 33) 116 121 rfl elem_op (w.heap.size + 2) _ (readsTo xs i) rfl ho3.out _ ⟨false, xk, xv⟩ 121 rfl (by simpa using hnb.out) (by omega) (by simp; omega) ?_; intro v3 w3 hown3 hg3; have hm4 := hm3.ch (ch_of_grown hg3) (fun e => by have := (ho3.out.ge _ e).1; omega); have hc4 := hc3.grown_own hg3 (fun b hb => by have := (ho3.out.ge b hb).1; omega); have hz4 := hg3.size; have hxc := (hxo.out.ch (ch_of_grown hg3) (fun e => by have := (HGE.out _ e).2; omega)).cell (i := 1) rfl)
            | (at_mapUpdate; refine wpList_imap_put _ rfl _ _ _ 177 rfl 3 158 under_int under_mis _ _ _ rfl hm4 (by unfold maxLen; omega) _ rfl hwf (.agg #[]) rfl ?_; intro w1 hm5 hc5))
          obtain ⟨c', g1, g2⟩ := HG.out w1 hm5
          have hc6 := hc4.fresh hc5 (by omega)
          have hw4 := hc5.size
          simp at hz4
          exact ⟨⟨i + 1, c', by go_num, by omega, g1, g2, Lib.hid (by rw [readsTo_succ, HT.out, HX.out]; exact hown3.off hc5 (fun b hb => by have := (hown3.ge b hb).1; omega)), by omega, hc6⟩, by simp [intOf]; omega⟩
    · have hd : decide ((i : Int) < (n : Int)) = false := decide_eq_false (by omega)
      obtain rfl : i = n := by omega
      go_wp2_with fail
      refine (by_key_row _ (w.heap.size + 2) _ (readsTo xs i) ho.out (by have := readsTo_len xs i; omega) hz).mono ?_
      rintro e w2 ⟨ys, rfl, ho2, hs2, hc2⟩
      have HO := Lib.hid (ho2.base (show w.heap.size ≤ w.heap.size + 2 by omega))
      have HS := Lib.hid hs2
      have hc3 : Ch nob w w2 := hc.trans hc2 (fun k hk e => by have := (ho.out.ge k e).1; omega)
      clear ho2 hs2 hc2 hc hm ho
      go_wp2_with fail
      go_ret
      exact ⟨_, ys, rfl, HO.out, HS.out, hc3⟩
end Go.Proofs.YtlhfpnkfapghoaaDoor
end

section
/- The program's account of a transaction: what it writes for others. No condition but each theorem's own. -/
set_option linter.unusedVariables false
set_option linter.unusedSimpArgs false
namespace Go.Proofs.YtlhfpnkfapghoaaDoor
open Go.RowKit Go.Maps

/-- The last write to some key, of the first i. -/
def lastW (xs : List Opn) : Nat → Int → Option Opn
  | 0, _ => none
  | i + 1, k => if (xs.getD i opZero).wr = true ∧ (xs.getD i opZero).key = k then some (xs.getD i opZero) else lastW xs i k
theorem lastW_key (xs : List Opn) (k : Int) (o : Opn) : ∀ i, lastW xs i k = some o → o.key = k
  | 0, h => by cases h
  | i + 1, h => by
    unfold lastW at h
    split at h
    · rename_i c
      cases h
      exact c.2
    · exact lastW_key xs k o i h
def opVal (o : Opn) : Value := .agg #[.bool o.wr, .int .i64 o.key, .int .i64 o.val]
def lastWF (xs : List Opn) (i : Nat) : Int → Option Value := fun k => (lastW xs i k).map opVal
theorem lastWF_yes (xs : List Opn) (i : Nat) (x : Opn) (h : xs.getD i opZero = x) (hw : x.wr = true) : putM (lastWF xs i) x.key (opVal x) = lastWF xs (i + 1) := by
  funext k
  unfold putM lastWF
  show _ = Option.map _ (if (xs.getD i opZero).wr = true ∧ (xs.getD i opZero).key = k then some (xs.getD i opZero) else lastW xs i k)
  rw [h]
  by_cases e : k = x.key
  · subst e
    rw [if_pos rfl, if_pos ⟨hw, rfl⟩]
    rfl
  · rw [if_neg e, if_neg (fun e2 => e e2.2.symm)]
theorem lastWF_no (xs : List Opn) (i : Nat) (x : Opn) (h : xs.getD i opZero = x) (hw : x.wr = false) : lastWF xs i = lastWF xs (i + 1) := by
  funext k
  unfold lastWF
  show _ = Option.map _ (if (xs.getD i opZero).wr = true ∧ (xs.getD i opZero).key = k then some (xs.getD i opZero) else lastW xs i k)
  rw [h, if_neg (fun e => by rw [hw] at e; cases e.1)]
theorem under_mio : Tryd.prog.underlying 165 = some (.map 3 121) := by kernel_rfl
/-- 'make([]Op, 0, c)'. -/
theorem wpList_make_op {w : World} {ops : Array Oper} {rest : List Oper} {o : Oper} {a : Act} {Q : Exit → Act → World → Prop} (hgd : o.guard = none) (l c : Operand) (ho : o.op = Op.makeSlice 116 l c)
    (base : Nat) (n : Nat) (hl : a.eval l = .int .i64 0) (hc : a.eval c = .int .i64 n) (hn : n ≤ 1000000) (hbase : base ≤ w.heap.size)
    (h : ∀ w', OwnO w' base 121 (.slice (some ⟨w.heap.size, 0, none⟩) 0 n) [] → Ch nob w w' → wpList Tryd.prog ops Q rest (a.put o.dst (.slice (some ⟨w.heap.size, 0, none⟩) 0 n)) w') : wpList Tryd.prog ops Q (o :: rest) a w := by
  obtain ⟨i, hi, hz0, hz1, hz2⟩ := elem_op.get
  exact wpList_make_own w hgd l c 116 ho base 121 i _ 3 elem_op.under hi hz0 hz1 .i64 .i64 n n hl hc rfl (by rw [hz2]; omega) (by unfold maxLen; omega) hbase (fun w' h1 h2 => h w' h1 ⟨h2.os, h2.tape, h2.output, h2.size, fun k hk _ => h2.block k hk (by simp)⟩)
/-- The step of a loop over a map whose elements are operations. -/
theorem wpList_imap_step {P : Program} (w : World) {ops : Array Oper} {rest : List Oper} {o : Oper} {a : Act} {Q : Exit → Act → World → Prop} (hg : o.guard = none) (it : Operand) (hop : o.op = Op.next it false) (K : TypeId) (hK : P.underlying K = some (.int .i64))
    (b r c : Nat) (F : Int → Option Opn) (left : Int → Bool) (cnt : Nat) (hm : a.eval it = .pointer (some ⟨r, 0, none⟩)) (h : IRange P K w b r c (fun k => (F k).map opVal) left cnt)
    (hDone : (∀ k, left k = false) → wpList P ops Q rest (a.put o.dst (.tuple #[.bool false])) w)
    (hMore : ∀ (k : Int) (y : Opn) (w' : World) (cnt' : Nat), (Lit.int .i64 k).wf = true → left k = true → F k = some y → IRange P K w' b r c (fun k => (F k).map opVal) (fun x => left x && !decide (x = k)) cnt' → cnt' < cnt → Ch (· = r) w w' → w'.heap.size = w.heap.size →
      (Instr.entry (.pointer (some ⟨r, 0, none⟩))).run P w' = .ok (.tuple #[.int .i64 k, .agg #[.bool y.wr, .int .i64 y.key, .int .i64 y.val]]) w' → wpList P ops Q rest (a.put o.dst (.tuple #[.bool true, .int .i64 k, .agg #[.bool y.wr, .int .i64 y.key, .int .i64 y.val]])) w') : wpList P ops Q (o :: rest) a w :=
  wpList_imap_next w hg it hop K hK b r c _ left cnt hm h hDone fun k v w' cnt' h1 h2 h3 h4 h5 h6 h7 h8 => by
    obtain ⟨y, hy, rfl⟩ := Option.map_eq_some_iff.1 h3
    exact hMore k y w' cnt' h1 h2 hy h4 h5 h6 h7 h8
/-- A row lies in no map, and in no walk over one. -/
theorem OwnO.apart {P : Program} {K : TypeId} {w : World} {b r c : Nat} {f : Int → Option Value} {left : Int → Bool} {cnt base e : Nat} {v : Value} {ys : List Opn} (h : OwnO w base e v ys) (hr : IRange P K w b r c f left cnt) : v.ownBlock ≠ some b ∧ v.ownBlock ≠ some r := by
  obtain ⟨D, l, ⟨es, clock, since, seen, c0, h1, h2, h3, h4, h5, _⟩, _⟩ := hr
  rcases h.2 with ⟨hv, _⟩ | ⟨g, cap, cur, hv, _, hg, _⟩
  · rw [hv]; exact ⟨by simp [Value.ownBlock], by simp [Value.ownBlock]⟩
  · rw [hv]
    constructor
    · intro e; simp [Value.ownBlock] at e; rw [e, h1] at hg; cases hg
    · intro e; simp [Value.ownBlock] at e; rw [e, h5] at hg; cases hg
/-- A fresh row of operations, rising by their keys, that holds just these. -/
def RetBy (w : World) (F : Int → Option Opn) (e : Ending) (w' : World) : Prop := ∃ v ys, e = .returned v ∧ OwnO w' w.heap.size 121 v ys ∧ ys.Pairwise (fun x y => x.key < y.key) ∧ (∀ x, x ∈ ys ↔ F x.key = some x) ∧ Ch nob w w'
/-- Gathered so far. -/
structure Gath (F : Int → Option Opn) (left : Int → Bool) (ys : List Opn) : Prop where
  mem : ∀ x, x ∈ ys → F x.key = some x ∧ left x.key = false
  all : ∀ k o, F k = some o → left k = false → o ∈ ys
  one : (ys.map Opn.key).Nodup
theorem Gath.start (F : Int → Option Opn) : Gath F (fun k => ((F k).map opVal).isSome) [] :=
  ⟨fun x h => (by cases h), fun k o h1 h2 => (by simp [h1] at h2), List.nodup_nil⟩
theorem Gath.step {F : Int → Option Opn} {left : Int → Bool} {ys : List Opn} {k : Int} {o : Opn} (h : Gath F left ys) (hk : F k = some o) (hok : o.key = k) (hl : left k = true) : Gath F (fun x => left x && !decide (x = k)) (ys ++ [o]) := by
  refine ⟨fun x hx => ?_, fun j y h1 h2 => ?_, ?_⟩
  · rcases List.mem_append.1 hx with h3 | h3
    · exact ⟨(h.mem x h3).1, by rw [(h.mem x h3).2]; rfl⟩
    · rw [List.mem_singleton] at h3
      subst h3
      exact ⟨by rw [hok]; exact hk, by rw [hok]; simp⟩
  · by_cases e : j = k
    · subst e
      rw [hk] at h1
      cases h1
      simp
    · exact List.mem_append_left _ (h.all j y h1 (by simpa [e] using h2))
  · rw [List.map_append, List.nodup_append]
    refine ⟨h.one, by simp, fun a ha b hb e => ?_⟩
    rw [List.map_singleton, List.mem_singleton] at hb
    obtain ⟨x, hx, rfl⟩ := List.mem_map.1 ha
    have := (h.mem x hx).2
    rw [e, hb, hok, hl] at this
    cases this
theorem Gath.done {F : Int → Option Opn} {left : Int → Bool} {ys zs : List Opn} (h : Gath F left ys) (hl : ∀ k, left k = false) (hs : Sorts ys zs) : zs.Pairwise (fun x y => x.key < y.key) ∧ ∀ x, x ∈ zs ↔ F x.key = some x := by
  obtain ⟨_, h1, h2, h3⟩ := hs
  constructor
  · have h4 := h3 h.one
    rw [List.Nodup, List.pairwise_map] at h4
    unfold InOrder at h1
    exact (h1.and h4).imp fun h => by omega
  · intro x
    rw [h2]
    exact ⟨fun hx => (h.mem x hx).1, fun hx => h.all _ _ hx (hl _)⟩

set_option maxRecDepth 100000 in
set_option maxHeartbeats 4000000 in
theorem writes (w : World) (v : Value) (xs : List Opn) (p q r : Int) (hv : Opl w v xs) (hk : KeysOk xs) (hn : xs.length ≤ 1000000) :
    Calls Tryd.prog 75 #[.agg #[.int .i64 p, .int .i64 q, .int .i64 r, v]] w (RetBy w (lastW xs xs.length)) := by
  obtain ⟨A, cp, rfl⟩ := hv.shape
  have HV := Lib.hid hv
  have HK := Lib.hid hk
  have hmm := @run_makeMap Tryd.prog
  obtain ⟨n, hn2⟩ : ∃ n, xs.length = n := ⟨_, rfl⟩
  have HN := Lib.hid hn2
  rw [hn2] at hn HV ⊢
  have hc0 : Ch nob w ((w.alloc (.cells #[.int .i64 p, .int .i64 q, .int .i64 r, .slice A n cp] 118)).alloc (.map #[] 0)) := ((Ch.refl _ _).alloc _).alloc _
  have hm0 : IMap Tryd.prog 3 ((w.alloc (.cells #[.int .i64 p, .int .i64 q, .int .i64 r, .slice A n cp] 118)).alloc (.map #[] 0)) (w.heap.size + 1) 0 (lastWF xs 0) := by
    have := IMap.made Tryd.prog 3 (w.alloc (.cells #[.int .i64 p, .int .i64 q, .int .i64 r, .slice A n cp] 118))
    rw [show lastWF xs 0 = fun _ => none from rfl]
    simpa using this
  have hz0 : w.heap.size + 2 ≤ ((w.alloc (.cells #[.int .i64 p, .int .i64 q, .int .i64 r, .slice A n cp] 118)).alloc (.map #[] 0)).heap.size := by simp
  clear hv hk hn2
  go_enter Tryd.func75, Tryd.ntmps75
  go_wp2_with fail
  go_loopw [13] (fun x wr => ∃ i c : Nat, x = .int .i64 i ∧ i ≤ n ∧ c ≤ i ∧ Hid (IMap Tryd.prog 3 wr (w.heap.size + 1) c (lastWF xs i)) ∧ w.heap.size + 2 ≤ wr.heap.size ∧ Ch nob w wr) (fun x _ => n - (intOf x).toNat)
  case atStart => exact ⟨0, 0, rfl, Nat.zero_le _, Nat.le_refl _, Lib.hid hm0, hz0, hc0⟩
  case round =>
    clear hm0 hc0 hmm hz0
    obtain ⟨i, c, rfl, hi, hci, hm, hz, hc⟩ := hrel
    by_cases hlt : i < n
    · have hd : decide ((i : Int) < (n : Int)) = true := decide_eq_true (by omega)
      obtain ⟨ad, rfl, hx0, hx1, hx2⟩ := (HV.out.keep hc).at.2.2 i (by rw [HN.out]; exact hlt)
      have hwf := HK.out i (by rw [HN.out]; exact hlt)
      obtain ⟨x, hx⟩ : ∃ x, xs.getD i opZero = x := ⟨_, rfl⟩
      rw [hx] at hx0 hx1 hx2 hwf
      have HX := Lib.hid hx
      obtain ⟨xw, xk, xv⟩ := x
      have hc1 : Ch nob wr (wr.alloc (.cells #[.bool xw, .int .i64 xk, .int .i64 xv] 121)) := (Ch.refl _ _).alloc _
      have hm1 := hm.out.keep hc1
      have hc2 := hc.seq hc1
      clear hx hm hc hc1
      cases xw with
      | false =>
        have hm2 : Hid (IMap Tryd.prog 3 (wr.alloc (.cells #[.bool false, .int .i64 xk, .int .i64 xv] 121)) (w.heap.size + 1) c (lastWF xs (i + 1))) := Lib.hid (by rw [← lastWF_no xs i _ HX.out rfl]; exact hm1)
        have hz1 : w.heap.size + 2 ≤ (wr.alloc (.cells #[.bool false, .int .i64 xk, .int .i64 xv] 121)).heap.size := by simp; omega
        go_wp2_with fail
        go_roundw
        case rel => exact ⟨i + 1, c, by go_num, by omega, by omega, hm2, hz1, hc2⟩
        case measure => simp [intOf]; omega
      | true =>
        go_wp2_with (at_mapUpdate; refine wpList_imap_put _ rfl _ _ _ 165 rfl 3 121 under_int under_mio _ _ _ rfl hm1 (by unfold maxLen; omega) _ rfl hwf (opVal ⟨true, xk, xv⟩) rfl ?_; intro w1 hm2 hc3)
        have hc4 := hc2.fresh hc3 (by omega)
        have hw4 := hc3.size
        simp at hw4
        exact ⟨⟨i + 1, (if (lastWF xs i xk).isSome then c else c + 1), by go_num, by omega, by split <;> omega, Lib.hid (by rw [← lastWF_yes xs i _ HX.out rfl]; exact hm2), by omega, hc4⟩, by simp [intOf]; omega⟩
    · have hd : decide ((i : Int) < (n : Int)) = false := decide_eq_false (by omega)
      obtain rfl : i = n := by omega
      have hmo := hm.out
      go_wp2_with (first
        | (at_len; refine wpList_imap_len _ rfl _ 165 rfl 3 121 under_mio _ _ _ rfl hmo ?_)
        | (at_make; refine wpList_make_op rfl _ _ rfl (w.heap.size + 2) c rfl rfl (by omega) hz ?_; intro w4 ho0 hc5; have hm5 := hmo.keep hc5; have hc6 := hc.seq hc5)
        | (at_range; refine wpList_imap_range _ rfl _ 165 rfl 3 121 under_int under_mio _ _ _ rfl hm5 ?_; intro w7 hr7 hc8 hs8))
      go_frame
      have hF := Lib.hid (fun k o (h : lastW xs i k = some o) => lastW_key xs k o i h)
      have hG0 := Lib.hid (Gath.start (lastW xs i))
      have ho7 := Lib.hid (ho0.keep hc8)
      have hc9 := hc6.seq hc8
      have hz9 : w.heap.size + 2 ≤ w7.heap.size := by have := hc5.size; omega
      have hr8 := Lib.hid hr7
      have hrr : w.heap.size + 2 ≤ w4.heap.size := by have := hc5.size; omega
      clear hmo hm5 hc5 hc6 hc8 hr7 ho0 hm hc hz HK HV
      obtain ⟨rr, hrr2⟩ : ∃ rr, w4.heap.size = rr := ⟨_, rfl⟩
      rw [hrr2] at hr8 hrr ⊢
      clear hrr2 hs8
      go_loopw [6] (fun y wr => ∃ (ys : List Opn) (left : Int → Bool) (cnt : Nat), Hid (IRange Tryd.prog 3 wr (w.heap.size + 1) rr c (lastWF xs i) left cnt) ∧ Hid (OwnO wr (w.heap.size + 2) 121 y ys) ∧ Hid (Gath (lastW xs i) left ys) ∧ ys.length + cnt ≤ c ∧ w.heap.size + 2 ≤ wr.heap.size ∧ Ch nob w wr) (fun _ wr => wr.rangeLeft (w.heap.size + 1) rr)
      case atStart => exact ⟨[], _, c, hr8, ho7, hG0, by simp, hz9, hc9⟩
      case round =>
        clear hr8 ho7 hG0 hz9 hc9
        obtain ⟨ys, left, cnt, hr, ho, hG, hyl, hz, hc⟩ := hrel
        have hro := hr.out
        have hro2 : IRange Tryd.prog 3 wr (w.heap.size + 1) rr c (fun k => (lastW xs i k).map opVal) left cnt := hro
        go_wp2_with (at_next; refine wpList_imap_step _ rfl _ rfl 3 under_int (w.heap.size + 1) rr c (lastW xs i) left cnt rfl hro2 ?_ ?_)
        · intro hl0
          have HL := Lib.hid hl0
          clear hl0
          go_wp2_with fail
          refine (by_key_row _ (w.heap.size + 2) _ ys ho.out (by omega) hz).mono ?_
          rintro e w2 ⟨zs, rfl, ho2, hs2, hc2⟩
          have HO := Lib.hid (ho2.base (show w.heap.size ≤ w.heap.size + 2 by omega))
          have HS := Lib.hid (hG.out.done HL.out hs2)
          have hc3 : Ch nob w w2 := hc.trans hc2 (fun k hk e => by have := (ho.out.ge k e).1; omega)
          clear ho2 hs2 hc2 hc hr hro hro2 ho
          go_wp2_with fail
          go_ret
          exact ⟨_, zs, rfl, HO.out, HS.out.1, HS.out.2, hc3⟩
        · intro k y w1 cnt1 hwf hlk hFk hr1 hlt1 hc1 hs1 hen
          have hap := ho.out.apart hro
          have hnb := Lib.hid ((Blk.new (w1.alloc (.cells #[.bool y.wr, .int .i64 y.key, .int .i64 y.val] 121)) #[.bool y.wr, .int .i64 y.key, .int .i64 y.val] 121))
          have ho1 := ho.out.off hc1 (fun b hb e => hap.2 (by rw [hb, e]))
          have hap1 := ho1.apart hr1
          have hcA : Ch nob w1 ((w1.alloc (.cells #[.bool y.wr, .int .i64 y.key, .int .i64 y.val] 121)).alloc (.cells #[.bool y.wr, .int .i64 y.key, .int .i64 y.val] 121)) := ((Ch.refl _ _).alloc _).alloc _
          have ho3 := Lib.hid (ho1.keep hcA)
          have hr3 := Lib.hid (hr1.ch hcA (fun h => h) (fun h => h))
          have hc3 := (hc.fresh hc1 (by omega)).seq hcA
          have HGS := Lib.hid (hG.out.step hFk (hF.out k y hFk) hlk)
          have hleft := Lib.hid (show wr.rangeLeft (w.heap.size + 1) rr = cnt from hro.left_eq)
          have hz1 : w.heap.size + 2 ≤ w1.heap.size := by omega
          clear hr hro hro2 ho hc hG hlk hFk hwf hap hcA ho1 hc1 hs1 hr1 hz
          go_wp2_with (at_builtin; refine wpList_append_op rfl (.tmp 33) (.tmp 35) 116 121 rfl elem_op (w.heap.size + 2) _ ys rfl ho3.out _ y 121 rfl (by simpa using hnb.out) (by omega) (by simp; omega) ?_; intro v3 w3 hown3 hg3)
          have hr4 := hr3.out.ch (ch_of_grown hg3) hap1.1 hap1.2
          have hc4 := hc3.grown_own hg3 (fun b hb => by have := (ho3.out.ge b hb).1; omega)
          have hz4 := hg3.size
          simp at hz4
          exact ⟨⟨_, _, cnt1, Lib.hid hr4, Lib.hid hown3, HGS, by rw [List.length_append]; simp; omega, by omega, hc4⟩, by rw [hr4.left_eq, hleft.out]; exact hlt1⟩
end Go.Proofs.YtlhfpnkfapghoaaDoor
end

section
/- The document's account of a transaction: what came before; is it steady? No condition but each theorem's own. -/
set_option linter.unusedVariables false
set_option linter.unusedSimpArgs false
namespace Go.Proofs.YtlhfpnkfapghoaaDoor
open Go.RowKit Go.Maps

/-- The results of a function: a struct's variable, and a slot. -/
theorem results_cell_row2 {P : Program} {fn : Func} {p u : Tmp} {ty : TypeId} (h : fn.results = #[.cell p ty, .tmp u]) (tmps : Array Value) (w : World) (g : Nat) (t : TypeId) (cs : Array Value) (fr : Nat × Nat) (d : TypeDesc)
    (hp : tmps.getD p undef = .pointer (some ⟨g, 0, none⟩)) (hg : w.heap[g]? = some (.cells cs t fr))
    (hu : P.underlying ty = some d) (hd : (match d with | .struct _ | .array _ _ => true | _ => false) = true) (hi : (P.info? ty).map (·.size) = some cs.size) :
    (results fn tmps).run P w = .ok (.tuple #[.agg cs, tmps.getD u undef]) w := by
  have hp' : tmps[p]?.getD undef = .pointer (some ⟨g, 0, none⟩) := by simpa using hp
  simp [results, h, hp', asAddr, run_loadVar_row w g t ty cs fr d hg hu hd hi]
/-- What 'before' hands back. -/
def RetBefore (o : Option Opn) (w : World) (e : Ending) (w' : World) : Prop := e = .returned (.tuple #[.agg #[.bool (o.getD opZero).wr, .int .i64 (o.getD opZero).key, .int .i64 (o.getD opZero).val], .bool o.isSome]) ∧ Ch nob w w'
set_option maxRecDepth 20000 in
set_option maxHeartbeats 1000000 in
theorem before_ref05 (w : World) (v : Value) (xs : List Opn) (at_ : Nat) (k : Int) (hv : Opl w v xs) (ha : at_ ≤ xs.length) (hn : xs.length ≤ 1000000) :
    Calls Tryd.prog 139 #[v, .int .i64 at_, .int .i64 k] w (RetBefore (lastAt xs at_ k) w) := by
  obtain ⟨A, cp, rfl⟩ := hv.shape
  have HV := Lib.hid hv
  obtain ⟨n, hn2⟩ : ∃ n, xs.length = n := ⟨_, rfl⟩
  have HN := Lib.hid hn2
  rw [hn2] at hn HV ha ⊢
  obtain ⟨hb0, hc0, _⟩ := one_new w #[.bool false, .int .i64 0, .int .i64 0] 121
  have HB0 := Lib.hid hb0
  clear hv hn2 hb0
  go_enter Tryd.func139, Tryd.ntmps139
  go_wp2_with fail
  go_loopw [8] (fun x wr => ∃ (j : Nat) (z : Int), x = .int .i64 z ∧ Hid (z + 1 = (j : Int)) ∧ j ≤ at_ ∧ Hid (lastAt xs at_ k = lastAt xs j k) ∧ wr = w.alloc (.cells #[.bool false, .int .i64 0, .int .i64 0] 121)) (fun x _ => (intOf x + 1).toNat)
  case atStart => exact ⟨at_, (at_ : Int) - 1, rfl, Lib.hid (by omega), Nat.le_refl _, Lib.hid rfl, rfl⟩
  case round =>
    obtain ⟨j, z, rfl, hz, hj, hl, rfl⟩ := hrel
    rcases j with _ | q
    · obtain rfl : z = -1 := by have := hz.out; omega
      have HF := Lib.hid (show lastAt xs at_ k = none from hl.out)
      clear hz hl
      go_wp2_with fail
      exact bodyPost_ret (results_cell_row2 rfl _ _ w.heap.size 121 #[.bool false, .int .i64 0, .int .i64 0] (0, 0) _ rfl (Blk.new _ _ _) rfl rfl (by kernel_rfl)) rfl ⟨(by rw [HF.out]; rfl), (Ch.refl _ _).alloc _⟩
    · obtain rfl : z = (q : Int) := by have := hz.out; omega
      clear hz
      have hq : q < n := by omega
      obtain ⟨ad, rfl, hx0, hx1, hx2⟩ := (HV.out.keep hc0).at.2.2 q (by rw [HN.out]; exact hq)
      obtain ⟨x, hx⟩ : ∃ x, xs.getD q opZero = x := ⟨_, rfl⟩
      rw [hx] at hx0 hx1 hx2
      have HX := Lib.hid hx
      clear hx
      by_cases he : x.key = k
      · have HF := Lib.hid (show lastAt xs at_ k = some x from by
          rw [hl.out]
          show (if (xs.getD q opZero).key = k then some (xs.getD q opZero) else lastAt xs q k) = _
          rw [HX.out, if_pos he])
        have hd : (x.key == k) = true := by simp [he]
        clear hl he
        go_wp2_with fail
        exact bodyPost_ret (results_cell_row2 rfl _ _ w.heap.size 121 #[.bool x.wr, .int .i64 x.key, .int .i64 x.val] (0, 0) _ rfl (Blk.new _ _ _) rfl rfl (by kernel_rfl)) rfl ⟨(by rw [HF.out]; rfl), (Ch.refl _ _).alloc _⟩
      · have HF := Lib.hid (show lastAt xs at_ k = lastAt xs q k from by
          rw [hl.out]
          show (if (xs.getD q opZero).key = k then some (xs.getD q opZero) else lastAt xs q k) = _
          rw [HX.out, if_neg he])
        have hd : (x.key == k) = false := by simp [he]
        clear hl he
        go_wp2_with fail
        go_roundw
        case rel => exact ⟨q, (q : Int) - 1, by go_num, Lib.hid (by omega), by omega, HF, trivial⟩
        case measure => simp [intOf]
def steadyO (o : Option Opn) (x : Opn) : Bool := match o with
  | some o => x.wr || o.val == x.val
  | none => true
theorem steadyAt_eq (xs : List Opn) (i : Nat) (x : Opn) (h : xs.getD i opZero = x) : steadyAt xs i = steadyO (lastAt xs i x.key) x := by subst h; rfl
set_option maxHeartbeats 2000000 in
theorem steady_ref05 (w : World) (v : Value) (xs : List Opn) (hv : Opl w v xs) (hn : xs.length ≤ 1000000) :
    Calls Tryd.prog 130 #[v] w fun e w' => e = .returned (.bool (steadyB xs)) ∧ Ch nob w w' := by
  obtain ⟨A, cp, rfl⟩ := hv.shape
  have HV := Lib.hid hv
  obtain ⟨n, hn2⟩ : ∃ n, xs.length = n := ⟨_, rfl⟩
  have HN := Lib.hid hn2
  rw [hn2] at hn HV ⊢
  clear hv hn2
  go_enter Tryd.func130, Tryd.ntmps130
  go_wp2_with fail
  go_loopw [3] (fun x wr => ∃ i : Nat, x = .int .i64 i ∧ i ≤ n ∧ Hid (∀ j, j < i → steadyAt xs j = true) ∧ Ch nob w wr) (fun x _ => n - (intOf x).toNat)
  case atStart => exact ⟨0, rfl, Nat.zero_le _, Lib.hid (fun j hj => by omega), Ch.refl _ _⟩
  case round =>
    obtain ⟨i, rfl, hi, hst, hc⟩ := hrel
    by_cases hlt : i < n
    · have hd : decide ((i : Int) < (n : Int)) = true := decide_eq_true (by omega)
      have hv1 := HV.out.keep hc
      obtain ⟨ad, rfl, hx0, hx1, hx2⟩ := hv1.at.2.2 i (by rw [HN.out]; exact hlt)
      obtain ⟨x, hx⟩ : ∃ x, xs.getD i opZero = x := ⟨_, rfl⟩
      rw [hx] at hx0 hx1 hx2
      have HX := Lib.hid hx
      have HA := Lib.hid (steadyAt_eq xs i x hx)
      have HI := Lib.hid (show i < xs.length from by rw [HN.out]; exact hlt)
      have HB := Lib.hid (before_ref05 wr _ xs i x.key hv1 (by rw [HN.out]; exact hi) (by rw [HN.out]; exact hn))
      clear hx hv1
      go_wp2_with fail
      refine HB.out.mono ?_
      rintro e w1 ⟨rfl, hc1⟩
      have hc2 := hc.seq hc1
      clear hx0 hx1 hx2 hc hc1 HB
      obtain ⟨o, ho⟩ : ∃ o, lastAt xs i x.key = o := ⟨_, rfl⟩
      rw [ho]
      have HO := Lib.hid (show steadyAt xs i = steadyO o x from by rw [HA.out, ho])
      clear ho HA
      have hc3 : Ch nob w (w1.alloc (.cells #[.bool (o.getD opZero).wr, .int .i64 (o.getD opZero).key, .int .i64 (o.getD opZero).val] 121)) := hc2.alloc _
      obtain ⟨ad2, he, hx0, hx1, hx2⟩ := (HV.out.keep hc3).at.2.2 i (by rw [HN.out]; exact hlt)
      cases he
      rw [HX.out] at hx0 hx1 hx2
      have hi0 : (0 : Int) ≤ (i : Int) := by omega
      have hi1 : (i : Int) < (n : Int) := by omega
      obtain ⟨xw, xk, xv⟩ := x
      have hy2 := (Blk.new w1 #[.bool (o.getD opZero).wr, .int .i64 (o.getD opZero).key, .int .i64 (o.getD opZero).val] 121).cell (i := 2) (v := .int .i64 (o.getD opZero).val) rfl
      have hgo : steadyAt xs i = true → Hid (∀ j, j < i + 1 → steadyAt xs j = true) := fun h2 => Lib.hid (fun j hj => by
          by_cases e : j = i
          · rw [e]; exact h2
          · exact hst.out j (by omega))
      have HG := Lib.hid hgo
      clear hgo hst
      cases o with
      | none =>
        have HT := HG.out HO.out
        have X0 := fun u : Ext _ => Ext.cell hx0 u
        have X1 := fun u : Ext _ => Ext.cell hx1 u
        have X2 := fun u : Ext _ => Ext.cell hx2 u
        have Y2 := fun u : Ext _ => Ext.cell hy2 u
        go_wp2_with fail
        refine wp_region_ch (w0 := _) (by kernel_rfl) (by kernel_rfl) (Ch.refl _ _) ?_
        repeat go_big_quiet_step (fail)
        refine wpQuiet_nil ?_
        rintro wq ⟨⟨_, hcq⟩, rfl⟩
        have hc4 := hc3.seq hcq
        clear X0 X1 X2 Y2 hx0 hx1 hx2 hy2 hcq hc3 hc2
        go_wp2_with fail
        go_roundw
        case rel => exact ⟨i + 1, by go_num, by omega, HT, hc4⟩
        case measure => simp [intOf]; omega
      | some o =>
        obtain ⟨ow, ok, ov⟩ := o
        cases xw with
        | true =>
          have HT := HG.out HO.out
          have X0 := fun u : Ext _ => Ext.cell hx0 u
          have X1 := fun u : Ext _ => Ext.cell hx1 u
          have X2 := fun u : Ext _ => Ext.cell hx2 u
          have Y2 := fun u : Ext _ => Ext.cell hy2 u
          go_wp2_with fail
          refine wp_region_ch (w0 := _) (by kernel_rfl) (by kernel_rfl) (Ch.refl _ _) ?_
          repeat go_big_quiet_step (fail)
          refine wpQuiet_nil ?_
          rintro wq ⟨⟨_, hcq⟩, rfl⟩
          have hc4 := hc3.seq hcq
          clear X0 X1 X2 Y2 hx0 hx1 hx2 hy2 hcq hc3 hc2
          go_wp2_with fail
          go_roundw
          case rel => exact ⟨i + 1, by go_num, by omega, HT, hc4⟩
          case measure => simp [intOf]; omega
        | false =>
          by_cases he : ov = xv
          · have hne : (ov != xv) = false := by rw [he]; exact bne_self_eq_false xv
            have HT := HG.out (by rw [HO.out]; simp [steadyO, he])
            clear he
            have X0 := fun u : Ext _ => Ext.cell hx0 u
            have X1 := fun u : Ext _ => Ext.cell hx1 u
            have X2 := fun u : Ext _ => Ext.cell hx2 u
            have Y2 := fun u : Ext _ => Ext.cell hy2 u
            go_wp2_with fail
            refine wp_region_ch (w0 := _) (by kernel_rfl) (by kernel_rfl) (Ch.refl _ _) ?_
            repeat go_big_quiet_step (fail)
            refine wpQuiet_nil ?_
            rintro wq ⟨⟨_, hcq⟩, rfl⟩
            have hc4 := hc3.seq hcq
            clear X0 X1 X2 Y2 hx0 hx1 hx2 hy2 hcq hc3 hc2
            go_wp2_with fail
            go_roundw
            case rel => exact ⟨i + 1, by go_num, by omega, HT, hc4⟩
            case measure => simp [intOf]; omega
          · have hne : (ov != xv) = true := by simp [he]
            have HF := Lib.hid (show steadyB xs = false from steady_no HI.out (by rw [HO.out]; simp [steadyO, he]))
            clear he
            have X0 := fun u : Ext _ => Ext.cell hx0 u
            have X1 := fun u : Ext _ => Ext.cell hx1 u
            have X2 := fun u : Ext _ => Ext.cell hx2 u
            have Y2 := fun u : Ext _ => Ext.cell hy2 u
            go_wp2_with fail
            refine wp_region_ch (w0 := _) (by kernel_rfl) (by kernel_rfl) (Ch.refl _ _) ?_
            repeat go_big_quiet_step (fail)
            refine wpQuiet_nil ?_
            rintro wq ⟨⟨_, hcq⟩, rfl⟩
            have hc4 := hc3.seq hcq
            clear X0 X1 X2 Y2 hx0 hx1 hx2 hy2 hcq hc3 hc2
            go_wp2_with fail
            go_ret
            exact ⟨ret_bool HF.out.symm, hc4⟩
    · have hd : decide ((i : Int) < (n : Int)) = false := decide_eq_false (by omega)
      have HF := Lib.hid (show steadyB xs = true from steady_all (fun j hj => hst.out j (by have := HN.out; omega)))
      go_wp2_with fail
      go_ret
      exact ⟨ret_bool HF.out.symm, hc⟩
end Go.Proofs.YtlhfpnkfapghoaaDoor
end

section
/- The document's account of a transaction: what is read of others. No condition but each theorem's own. -/
set_option linter.unusedVariables false
set_option linter.unusedSimpArgs false
namespace Go.Proofs.YtlhfpnkfapghoaaDoor
open Go.RowKit Go.Maps

/-! ### Plain -/
/-- Of one key, of the first i: what is read of others. -/
def readsK (xs : List Opn) (k : Int) : Nat → List Opn
  | 0 => []
  | i + 1 => if (xs.getD i opZero).key = k ∧ readAt xs i = true then readsK xs k i ++ [xs.getD i opZero] else readsK xs k i
/-- .. of the first keys, key by key. -/
def readsR (xs : List Opn) : Nat → List Opn
  | 0 => []
  | k + 1 => readsR xs k ++ readsK xs (k : Int) xs.length
theorem readsK_succ (xs : List Opn) (k : Int) (i : Nat) : readsK xs k (i + 1) = if (xs.getD i opZero).key = k ∧ readAt xs i = true then readsK xs k i ++ [xs.getD i opZero] else readsK xs k i := rfl
theorem lastAt_none (xs : List Opn) (k : Int) : ∀ i, lastAt xs i k = none ↔ ∀ j, j < i → (xs.getD j opZero).key ≠ k
  | 0 => ⟨fun _ j h => (by omega), fun _ => rfl⟩
  | i + 1 => by
    show (if (xs.getD i opZero).key = k then some (xs.getD i opZero) else lastAt xs i k) = none ↔ _
    by_cases e : (xs.getD i opZero).key = k
    · rw [if_pos e]
      exact ⟨fun h => (by cases h), fun h => absurd e (h i (by omega))⟩
    · rw [if_neg e, lastAt_none xs k i]
      exact ⟨fun h j hj => (by
        by_cases e2 : j = i
        · rw [e2]; exact e
        · exact h j (by omega)), fun h j hj => h j (by omega)⟩
theorem readAt_first {xs : List Opn} {i j : Nat} (h : readAt xs i = true) (hj : j < i) : (xs.getD j opZero).key ≠ (xs.getD i opZero).key := by
  unfold readAt at h
  rw [Bool.and_eq_true, Option.isNone_iff_eq_none] at h
  exact (lastAt_none xs _ i).1 h.1 j hj
theorem mem_readsTo (xs : List Opn) (x : Opn) : ∀ i, x ∈ readsTo xs i ↔ ∃ j, j < i ∧ readAt xs j = true ∧ xs.getD j opZero = x
  | 0 => ⟨fun h => (by cases h), fun ⟨j, h, _⟩ => (by omega)⟩
  | i + 1 => by
    rw [readsTo_succ]
    have ih := mem_readsTo xs x i
    by_cases e : readAt xs i = true
    · rw [if_pos e, List.mem_append, ih, List.mem_singleton]
      constructor
      · rintro (⟨j, h1, h2⟩ | rfl)
        · exact ⟨j, by omega, h2⟩
        · exact ⟨i, by omega, e, rfl⟩
      · rintro ⟨j, h1, h2, h3⟩
        by_cases e2 : j = i
        · subst e2; exact .inr h3.symm
        · exact .inl ⟨j, by omega, h2, h3⟩
    · rw [if_neg e, ih]
      constructor
      · rintro ⟨j, h1, h2⟩; exact ⟨j, by omega, h2⟩
      · rintro ⟨j, h1, h2, h3⟩
        by_cases e2 : j = i
        · subst e2; exact absurd h2 e
        · exact ⟨j, by omega, h2, h3⟩
theorem mem_readsK (xs : List Opn) (k : Int) (x : Opn) : ∀ i, x ∈ readsK xs k i ↔ x.key = k ∧ ∃ j, j < i ∧ readAt xs j = true ∧ xs.getD j opZero = x
  | 0 => ⟨fun h => (by cases h), fun ⟨_, j, h, _⟩ => (by omega)⟩
  | i + 1 => by
    rw [readsK_succ]
    have ih := mem_readsK xs k x i
    by_cases e : (xs.getD i opZero).key = k ∧ readAt xs i = true
    · rw [if_pos e, List.mem_append, ih, List.mem_singleton]
      constructor
      · rintro (⟨h0, j, h1, h2⟩ | rfl)
        · exact ⟨h0, j, by omega, h2⟩
        · exact ⟨e.1, i, by omega, e.2, rfl⟩
      · rintro ⟨h0, j, h1, h2, h3⟩
        by_cases e2 : j = i
        · subst e2; exact .inr h3.symm
        · exact .inl ⟨h0, j, by omega, h2, h3⟩
    · rw [if_neg e, ih]
      constructor
      · rintro ⟨h0, j, h1, h2⟩; exact ⟨h0, j, by omega, h2⟩
      · rintro ⟨h0, j, h1, h2, h3⟩
        by_cases e2 : j = i
        · subst e2; exact absurd ⟨by rw [h3]; exact h0, h2⟩ e
        · exact ⟨h0, j, by omega, h2, h3⟩
theorem mem_readsR (xs : List Opn) (x : Opn) : ∀ k : Nat, x ∈ readsR xs k ↔ (0 ≤ x.key ∧ x.key < k) ∧ x ∈ readsTo xs xs.length
  | 0 => ⟨fun h => (by cases h), fun h => (by omega)⟩
  | k + 1 => by
    show x ∈ readsR xs k ++ readsK xs (k : Int) xs.length ↔ _
    rw [List.mem_append, mem_readsR xs x k, mem_readsK, mem_readsTo]
    constructor
    · rintro (⟨h1, h2⟩ | ⟨h1, h2⟩)
      · exact ⟨by omega, h2⟩
      · exact ⟨by omega, h2⟩
    · rintro ⟨h1, h2⟩
      by_cases e : x.key = (k : Int)
      · exact .inr ⟨e, h2⟩
      · exact .inl ⟨by omega, h2⟩
theorem readsK_one (xs : List Opn) (k : Int) : ∀ i, (readsK xs k i).Pairwise (fun x y => x.key < y.key)
  | 0 => List.Pairwise.nil
  | i + 1 => by
    rw [readsK_succ]
    by_cases e : (xs.getD i opZero).key = k ∧ readAt xs i = true
    · rw [if_pos e]
      have : readsK xs k i = [] := by
        rw [List.eq_nil_iff_forall_not_mem]
        intro x hx
        obtain ⟨h0, j, h1, h2, h3⟩ := (mem_readsK xs k x i).1 hx
        have := readAt_first e.2 h1
        rw [h3, h0, e.1] at this
        exact this rfl
      rw [this]
      exact List.pairwise_singleton _ _
    · rw [if_neg e]; exact readsK_one xs k i
theorem readsR_rise (xs : List Opn) : ∀ k : Nat, (readsR xs k).Pairwise (fun x y => x.key < y.key)
  | 0 => List.Pairwise.nil
  | k + 1 => by
    show (readsR xs k ++ readsK xs (k : Int) xs.length).Pairwise _
    rw [List.pairwise_append]
    refine ⟨readsR_rise xs k, readsK_one xs _ _, fun x hx y hy => ?_⟩
    have h1 := ((mem_readsR xs x k).1 hx).1
    have h2 := ((mem_readsK xs _ y _).1 hy).1
    omega
theorem readsTo_one (xs : List Opn) : ∀ i, ((readsTo xs i).map Opn.key).Nodup
  | 0 => List.nodup_nil
  | i + 1 => by
    rw [readsTo_succ]
    by_cases e : readAt xs i = true
    · rw [if_pos e, List.map_append, List.nodup_append]
      refine ⟨readsTo_one xs i, by simp, fun a ha b hb e2 => ?_⟩
      rw [List.map_singleton, List.mem_singleton] at hb
      obtain ⟨x, hx, rfl⟩ := List.mem_map.1 ha
      obtain ⟨j, h1, h2, h3⟩ := (mem_readsTo xs x i).1 hx
      have := readAt_first e h1
      rw [h3, e2, hb] at this
      exact this rfl
    · rw [if_neg e]; exact readsTo_one xs i
/-- All keys are among the first 64. -/
def Keys64 (xs : List Opn) : Prop := ∀ i, i < xs.length → 0 ≤ (xs.getD i opZero).key ∧ (xs.getD i opZero).key < 64
theorem reads_is {xs ys : List Opn} (hk : Keys64 xs) (h : Sorts (readsTo xs xs.length) ys) : ys = readsR xs 64 :=
  h.eq (readsTo_one xs _) (readsR_rise xs 64) fun x => by
    rw [mem_readsR]
    refine ⟨fun h => h.2, fun h => ⟨?_, h⟩⟩
    obtain ⟨j, h1, _, h3⟩ := (mem_readsTo xs x _).1 h
    have := hk j h1
    rw [h3] at this
    exact this
theorem readsK_len (xs : List Opn) (k : Int) : ∀ i, (readsK xs k i).length ≤ i
  | 0 => Nat.le_refl _
  | i + 1 => by
    have := readsK_len xs k i
    rw [readsK_succ]
    split
    · rw [List.length_append]; simp; omega
    · omega
theorem readsR_len (xs : List Opn) : ∀ k : Nat, (readsR xs k).length ≤ k * xs.length
  | 0 => by simp [readsR]
  | k + 1 => by
    show (readsR xs k ++ readsK xs (k : Int) xs.length).length ≤ _
    rw [List.length_append, Nat.succ_mul]
    have := readsR_len xs k
    have := readsK_len xs (k : Int) xs.length
    omega
end Go.Proofs.YtlhfpnkfapghoaaDoor
end

section
/- The document's account of a transaction: what is read of others: the walk. No condition but each theorem's own. -/
set_option linter.unusedVariables false
set_option linter.unusedSimpArgs false
namespace Go.Proofs.YtlhfpnkfapghoaaDoor
open Go.RowKit Go.Maps

theorem OwnO.made (w : World) (base e : Nat) (hb : base ≤ w.heap.size) : OwnO (w.alloc (.cells #[] e)) base e (.slice (some ⟨w.heap.size, 0, none⟩) 0 0) [] :=
  World.ownsRow_made w #[] 0 hb (by unfold maxLen; omega) (by simp)
theorem OwnO.to {w : World} {base e : Nat} {v : Value} {xs ys : List Opn} (h : OwnO w base e v xs) (he : xs = ys) : OwnO w base e v ys := he ▸ h
/-- A fresh row of just these operations. -/
def RetList (w : World) (xs : List Opn) (e : Ending) (w' : World) : Prop := ∃ v, e = .returned v ∧ OwnO w' w.heap.size 121 v xs ∧ Ch nob w w'
set_option maxRecDepth 100000 in
set_option maxHeartbeats 4000000 in
theorem reads_ref05 (w : World) (v : Value) (xs : List Opn) (hv : Opl w v xs) (hn : xs.length ≤ 10000) :
    Calls Tryd.prog 125 #[v] w (RetList w (readsR xs 64)) := by
  obtain ⟨A, cp, rfl⟩ := hv.shape
  have HV := Lib.hid hv
  have ho0 := Lib.hid (OwnO.made w w.heap.size 121 (Nat.le_refl _))
  have hc0 : Ch nob w (w.alloc (.cells #[] 121)) := (Ch.refl _ _).alloc _
  obtain ⟨n, hn2⟩ : ∃ n, xs.length = n := ⟨_, rfl⟩
  have HN := Lib.hid hn2
  rw [hn2] at hn HV ⊢
  clear hv hn2
  go_enter Tryd.func125, Tryd.ntmps125
  go_wp2_with fail
  go_loopw [4, 3] (fun x y wr => ∃ k : Nat, x = .int .i64 k ∧ k ≤ 64 ∧ Hid (OwnO wr w.heap.size 121 y (readsR xs k)) ∧ Ch nob w wr) (fun x _ _ => 64 - (intOf x).toNat)
  case atStart => exact ⟨0, rfl, by omega, ho0, hc0⟩
  case round =>
    clear ho0 hc0
    obtain ⟨k, rfl, hk, ho, hc⟩ := hrel
    by_cases hlt : k < 64
    · have hd : decide ((k : Int) < 64) = true := decide_eq_true (by omega)
      have HB1 := Lib.hid (show (readsR xs k).length ≤ 640000 from by
        have := readsR_len xs k
        rw [HN.out] at this
        have h2 := Nat.mul_le_mul (show k ≤ 64 by omega) hn
        omega)
      have ho1 := Lib.hid (ho.out.to (show readsR xs k = readsR xs k ++ readsK xs (k : Int) 0 from (List.append_nil _).symm))
      clear ho
      go_wp2_with fail
      obtain ⟨wo, hwo⟩ : ∃ wo, wr = wo := ⟨_, rfl⟩
      rw [hwo] at ho1 hc ⊢
      clear hwo
      go_loopw [5, 3] (fun x y wr => ∃ i : Nat, x = .int .i64 i ∧ i ≤ n ∧ Hid (OwnO wr w.heap.size 121 y (readsR xs k ++ readsK xs (k : Int) i)) ∧ Ch nob w wr) (fun x _ _ => n - (intOf x).toNat)
      case atStart => exact ⟨0, rfl, by omega, ho1, hc⟩
      case round =>
        clear ho1 hc
        obtain ⟨i, rfl, hi, ho, hc⟩ := hrel
        by_cases hlt2 : i < n
        · have hd2 : decide ((i : Int) < (n : Int)) = true := decide_eq_true (by omega)
          have hv1 := HV.out.keep hc
          have HB := Lib.hid (before_ref05 wr _ xs i (k : Int) hv1 (by rw [HN.out]; exact hi) (by rw [HN.out]; omega))
          have HLN := Lib.hid (show (readsR xs k ++ readsK xs (k : Int) i).length ≤ 1000000 from by
            have := readsK_len xs (k : Int) i
            have := HB1.out
            rw [List.length_append]; omega)
          clear hv1
          go_wp2_with fail
          refine HB.out.mono ?_
          rintro e w1 ⟨rfl, hc1⟩
          have hc2 := hc.seq hc1
          have ho2 := ho.out.keep hc1
          clear hc hc1 HB ho
          obtain ⟨o, hoo⟩ : ∃ o, lastAt xs i (k : Int) = o := ⟨_, rfl⟩
          rw [hoo]
          have HO := Lib.hid hoo
          clear hoo
          obtain ⟨p, hp⟩ : ∃ p, o.getD opZero = p := ⟨_, rfl⟩
          rw [hp]
          clear hp
          have hc3 : Ch nob w (w1.alloc (.cells #[.bool p.wr, .int .i64 p.key, .int .i64 p.val] 121)) := hc2.alloc _
          have ho3 := Lib.hid (ho2.alloc (.cells #[.bool p.wr, .int .i64 p.key, .int .i64 p.val] 121))
          obtain ⟨ad, he, hx0, hx1, hx2⟩ := (HV.out.keep hc3).at.2.2 i (by rw [HN.out]; exact hlt2)
          subst he
          obtain ⟨x, hx⟩ : ∃ x, xs.getD i opZero = x := ⟨_, rfl⟩
          rw [hx] at hx0 hx1 hx2
          have HX := Lib.hid hx
          clear hx hc2 ho2
          obtain ⟨xw, xk, xv⟩ := x
          have hnext : ∀ (wz : World) (y : Value), ¬ (xk = (k : Int) ∧ readAt xs i = true) → OwnO wz w.heap.size 121 y (readsR xs k ++ readsK xs (k : Int) i) → Hid (OwnO wz w.heap.size 121 y (readsR xs k ++ readsK xs (k : Int) (i + 1))) := fun wz y h1 h2 => Lib.hid (by
            rw [readsK_succ, HX.out, if_neg h1]; exact h2)
          have HNX := Lib.hid hnext
          clear hnext
          by_cases hkk : xk = (k : Int)
          · have hdk : (xk == (k : Int)) = true := by simp [hkk]
            have HRA := Lib.hid (show readAt xs i = (o.isNone && !xw) from by
              unfold readAt
              rw [HX.out]
              show ((lastAt xs i xk).isNone && !xw) = _
              rw [hkk, HO.out])
            have HKK := Lib.hid hkk
            clear hkk
            cases xw with
            | true =>
              have ho4 := HNX.out _ _ (fun h => by rw [HRA.out] at h; simp at h) ho3.out
              clear ho3
              go_wp2_with fail
              go_roundw
              case rel => exact ⟨i + 1, by go_num, by omega, ho4, hc3⟩
              case measure => simp [intOf]; omega
            | false =>
              cases o with
              | some o =>
                have ho4 := HNX.out _ _ (fun h => by rw [HRA.out] at h; simp at h) ho3.out
                clear ho3
                go_wp2_with fail
                go_roundw
                case rel => exact ⟨i + 1, by go_num, by omega, ho4, hc3⟩
                case measure => simp [intOf]; omega
              | none =>
                have hnb := Lib.hid (Blk.new (w1.alloc (.cells #[.bool p.wr, .int .i64 p.key, .int .i64 p.val] 121)) #[.bool false, .int .i64 xk, .int .i64 xv] 121)
                have ho5 := Lib.hid (ho3.out.alloc (.cells #[.bool false, .int .i64 xk, .int .i64 xv] 121))
                have hc5 := hc3.alloc (.cells #[.bool false, .int .i64 xk, .int .i64 xv] 121)
                have hz5 := Lib.hid hc5.size
                clear ho3
                go_wp2_with (at_builtin; refine wpList_append_op rfl (.tmp 45) (.tmp 50) 116 121 rfl elem_op w.heap.size _ _ rfl ho5.out _ ⟨false, xk, xv⟩ 121 rfl (by simpa using hnb.out) HLN.out hz5.out ?_; intro v3 w3 hown3 hg3; have hc6 := hc5.grown_own hg3 (fun b hb => (ho5.out.ge b hb).1))
                have ho6 := Lib.hid (show OwnO w3 w.heap.size 121 v3 (readsR xs k ++ readsK xs (k : Int) (i + 1)) from by
                  rw [readsK_succ, HX.out, if_pos ⟨HKK.out, by rw [HRA.out]; rfl⟩, ← List.append_assoc]; exact hown3)
                clear hx0 hx1 hx2 ho5 hc5 hz5 hnb hown3 hg3
                go_roundw
                case rel => exact ⟨i + 1, by go_num, by omega, ho6, hc6⟩
                case measure => simp [intOf]; omega
          · have hdk : (xk == (k : Int)) = false := by simp [hkk]
            have ho4 := HNX.out _ _ (fun h => hkk h.1) ho3.out
            clear ho3
            go_wp2_with fail
            go_roundw
            case rel => exact ⟨i + 1, by go_num, by omega, ho4, hc3⟩
            case measure => simp [intOf]; omega
        · have hd2 : decide ((i : Int) < (n : Int)) = false := decide_eq_false (by omega)
          obtain rfl : i = n := by omega
          have ho4 := Lib.hid (ho.out.to (show readsR xs k ++ readsK xs (k : Int) i = readsR xs (k + 1) from by
            show _ = readsR xs k ++ readsK xs (k : Int) xs.length
            rw [HN.out]))
          clear ho
          go_wp2_with fail
          go_roundw
          case rel => exact ⟨k + 1, by go_num, by omega, ho4, hc⟩
          case measure => simp [intOf]; omega
    · have hd : decide ((k : Int) < 64) = false := decide_eq_false (by omega)
      obtain rfl : k = 64 := by omega
      go_wp2_with fail
      go_ret
      exact ⟨_, rfl, ho.out, hc⟩
end Go.Proofs.YtlhfpnkfapghoaaDoor
end

section
/- The document's account of a transaction: what it writes for others. No condition but each theorem's own. -/
set_option linter.unusedVariables false
set_option linter.unusedSimpArgs false
namespace Go.Proofs.YtlhfpnkfapghoaaDoor
open Go.RowKit Go.Maps

def writesR (xs : List Opn) : Nat → List Opn
  | 0 => []
  | k + 1 => writesR xs k ++ (lastW xs xs.length (k : Int)).toList
theorem writesR_len (xs : List Opn) : ∀ k : Nat, (writesR xs k).length ≤ k
  | 0 => Nat.le_refl _
  | k + 1 => by
    show (writesR xs k ++ (lastW xs xs.length (k : Int)).toList).length ≤ _
    have := writesR_len xs k
    rw [List.length_append]
    cases lastW xs xs.length (k : Int) <;> simp <;> omega
theorem mem_writesR (xs : List Opn) (x : Opn) : ∀ k : Nat, x ∈ writesR xs k ↔ (0 ≤ x.key ∧ x.key < k) ∧ lastW xs xs.length x.key = some x
  | 0 => ⟨fun h => (by cases h), fun h => (by omega)⟩
  | k + 1 => by
    show x ∈ writesR xs k ++ (lastW xs xs.length (k : Int)).toList ↔ _
    rw [List.mem_append, mem_writesR xs x k, Option.mem_toList]
    constructor
    · rintro (⟨h1, h2⟩ | h2)
      · exact ⟨by omega, h2⟩
      · have := lastW_key xs _ _ _ h2
        rw [this]
        exact ⟨by omega, h2⟩
    · rintro ⟨h1, h2⟩
      by_cases e : x.key = (k : Int)
      · exact .inr (by rw [← e]; exact h2)
      · exact .inl ⟨by omega, h2⟩
theorem writesR_rise (xs : List Opn) : ∀ k : Nat, (writesR xs k).Pairwise (fun x y => x.key < y.key)
  | 0 => List.Pairwise.nil
  | k + 1 => by
    show (writesR xs k ++ (lastW xs xs.length (k : Int)).toList).Pairwise _
    rw [List.pairwise_append]
    refine ⟨writesR_rise xs k, ?_, fun x hx y hy => ?_⟩
    · cases lastW xs xs.length (k : Int) <;> simp
    · have h1 := ((mem_writesR xs x k).1 hx).1
      have h2 := lastW_key xs _ _ _ (Option.mem_toList.1 hy)
      omega
theorem lastW_in {xs : List Opn} {k : Int} {o : Opn} : ∀ {i}, lastW xs i k = some o → ∃ j, j < i ∧ xs.getD j opZero = o
  | 0, h => by cases h
  | i + 1, h => by
    unfold lastW at h
    split at h
    · cases h; exact ⟨i, by omega, rfl⟩
    · obtain ⟨j, h1, h2⟩ := lastW_in h; exact ⟨j, by omega, h2⟩
theorem writes_is {xs ys : List Opn} (hk : Keys64 xs) (h1 : ys.Pairwise (fun x y => x.key < y.key)) (h2 : ∀ x, x ∈ ys ↔ lastW xs xs.length x.key = some x) : ys = writesR xs 64 :=
  strict_eq h1 (writesR_rise xs 64) fun x => by
    rw [h2, mem_writesR]
    refine ⟨fun h => ⟨?_, h⟩, fun h => h.2⟩
    obtain ⟨j, h3, h4⟩ := lastW_in h
    have := hk j h3
    rw [h4] at this
    exact this
set_option maxRecDepth 100000 in
set_option maxHeartbeats 4000000 in
theorem writes_ref05 (w : World) (v : Value) (xs : List Opn) (hv : Opl w v xs) (hn : xs.length ≤ 10000) :
    Calls Tryd.prog 140 #[v] w (RetList w (writesR xs 64)) := by
  obtain ⟨A, cp, rfl⟩ := hv.shape
  have HV := Lib.hid hv
  have ho0 := Lib.hid (OwnO.made w w.heap.size 121 (Nat.le_refl _))
  have hc0 : Ch nob w (w.alloc (.cells #[] 121)) := (Ch.refl _ _).alloc _
  obtain ⟨n, hn2⟩ : ∃ n, xs.length = n := ⟨_, rfl⟩
  have HN := Lib.hid hn2
  rw [hn2] at hn HV ⊢
  clear hv hn2
  go_enter Tryd.func140, Tryd.ntmps140
  go_wp2_with fail
  go_loopw [4, 3] (fun x y wr => ∃ k : Nat, x = .int .i64 k ∧ k ≤ 64 ∧ Hid (OwnO wr w.heap.size 121 y (writesR xs k)) ∧ Ch nob w wr) (fun x _ _ => 64 - (intOf x).toNat)
  case atStart => exact ⟨0, rfl, by omega, ho0, hc0⟩
  case round =>
    clear ho0 hc0
    obtain ⟨k, rfl, hk, ho, hc⟩ := hrel
    by_cases hlt : k < 64
    · have hd : decide ((k : Int) < 64) = true := decide_eq_true (by omega)
      have HB1 := Lib.hid (show (writesR xs k).length ≤ 1000000 from by have := writesR_len xs k; omega)
      go_wp2_with fail
      obtain ⟨wo, hwo⟩ : ∃ wo, wr = wo := ⟨_, rfl⟩
      rw [hwo] at ho hc ⊢
      clear hwo
      go_loopw [6, 5] (fun x z wr => ∃ (i : Nat) (q : Int), x = .int .i64 i ∧ z = .int .i64 q ∧ i ≤ n ∧ Hid ((q = -1 ∧ lastW xs i (k : Int) = none) ∨ ∃ j : Nat, q = (j : Int) ∧ j < i ∧ lastW xs i (k : Int) = some (xs.getD j opZero)) ∧ wo = wr) (fun x _ _ => n - (intOf x).toNat)
      case atStart => exact ⟨0, -1, rfl, rfl, by omega, Lib.hid (.inl ⟨rfl, rfl⟩), rfl⟩
      case round =>
        obtain ⟨i, q, rfl, rfl, hi, hq, rfl⟩ := hrel
        by_cases hlt2 : i < n
        · have hd2 : decide ((i : Int) < (n : Int)) = true := decide_eq_true (by omega)
          obtain ⟨ad, rfl, hx0, hx1, hx2⟩ := (HV.out.keep hc).at.2.2 i (by rw [HN.out]; exact hlt2)
          obtain ⟨x, hx⟩ : ∃ x, xs.getD i opZero = x := ⟨_, rfl⟩
          rw [hx] at hx0 hx1 hx2
          have hsuc : lastW xs (i + 1) (k : Int) = if x.wr = true ∧ x.key = (k : Int) then some x else lastW xs i (k : Int) := by rw [← hx]; rfl
          have HS := Lib.hid hsuc
          have HX := Lib.hid hx
          clear hx hsuc
          obtain ⟨xw, xk, xv⟩ := x
          have hno : ¬ (xw = true ∧ xk = (k : Int)) → Hid ((q = -1 ∧ lastW xs (i + 1) (k : Int) = none) ∨ ∃ j : Nat, q = (j : Int) ∧ j < i + 1 ∧ lastW xs (i + 1) (k : Int) = some (xs.getD j opZero)) := fun h => Lib.hid (by
            rw [HS.out, if_neg h]
            rcases hq.out with h1 | ⟨j, h1, h2, h3⟩
            · exact .inl h1
            · exact .inr ⟨j, h1, by omega, h3⟩)
          have HNO := Lib.hid hno
          clear hno
          by_cases hkk : xk = (k : Int)
          · have hdk : (xk == (k : Int)) = true := by simp [hkk]
            have HKK := Lib.hid hkk
            clear hkk
            cases xw with
            | true =>
              have hq2 : Hid (((i : Int) = -1 ∧ lastW xs (i + 1) (k : Int) = none) ∨ ∃ j : Nat, (i : Int) = (j : Int) ∧ j < i + 1 ∧ lastW xs (i + 1) (k : Int) = some (xs.getD j opZero)) := Lib.hid (.inr ⟨i, rfl, by omega, by rw [HS.out, if_pos ⟨rfl, HKK.out⟩, HX.out]⟩)
              go_wp2_with fail
              go_roundw
              case rel => exact ⟨i + 1, (i : Int), by go_num, rfl, by omega, hq2, trivial⟩
              case measure => simp [intOf]; omega
            | false =>
              have hq2 := HNO.out (fun h => by cases h.1)
              go_wp2_with fail
              go_roundw
              case rel => exact ⟨i + 1, q, by go_num, rfl, by omega, hq2, trivial⟩
              case measure => simp [intOf]; omega
          · have hdk : (xk == (k : Int)) = false := by simp [hkk]
            have hq2 := HNO.out (fun h => hkk h.2)
            go_wp2_with fail
            go_roundw
            case rel => exact ⟨i + 1, q, by go_num, rfl, by omega, hq2, trivial⟩
            case measure => simp [intOf]; omega
        · have hd2 : decide ((i : Int) < (n : Int)) = false := decide_eq_false (by omega)
          obtain rfl : i = n := by omega
          rcases hq.out with ⟨h1, h2⟩ | ⟨j, h1, h2, h3⟩
          · subst h1
            have ho4 := Lib.hid (ho.out.to (show writesR xs k = writesR xs (k + 1) from by
              show _ = writesR xs k ++ (lastW xs xs.length (k : Int)).toList
              rw [HN.out, h2]; simp))
            clear ho h2 hq
            go_wp2_with fail
            go_roundw
            case rel => exact ⟨k + 1, by go_num, by omega, ho4, hc⟩
            case measure => simp [intOf]; omega
          · subst h1
            have hge : decide ((0 : Int) ≤ (j : Int)) = true := decide_eq_true (by omega)
            obtain ⟨ad, rfl, hx0, hx1, hx2⟩ := (HV.out.keep hc).at.2.2 j (by rw [HN.out]; exact h2)
            obtain ⟨x, hx⟩ : ∃ x, xs.getD j opZero = x := ⟨_, rfl⟩
            rw [hx] at hx0 hx1 hx2 h3
            have H3 := Lib.hid h3
            clear hx h3 hq
            have hnb := Lib.hid (Blk.new wo #[.bool x.wr, .int .i64 x.key, .int .i64 x.val] 121)
            have ho5 := Lib.hid (ho.out.alloc (.cells #[.bool x.wr, .int .i64 x.key, .int .i64 x.val] 121))
            have hc5 := hc.alloc (.cells #[.bool x.wr, .int .i64 x.key, .int .i64 x.val] 121)
            have hz5 := Lib.hid hc5.size
            clear ho
            go_wp2_with (at_builtin; refine wpList_append_op rfl (.tmp 35) (.tmp 40) 116 121 rfl elem_op w.heap.size _ _ rfl ho5.out _ x 121 rfl (by simpa using hnb.out) HB1.out hz5.out ?_; intro v3 w3 hown3 hg3; have hc6 := hc5.grown_own hg3 (fun b hb => (ho5.out.ge b hb).1))
            have ho6 := Lib.hid (hown3.to (show writesR xs k ++ [x] = writesR xs (k + 1) from by
              show _ = writesR xs k ++ (lastW xs xs.length (k : Int)).toList
              rw [HN.out, H3.out]; rfl))
            clear hx0 hx1 hx2 ho5 hc5 hz5 hnb hown3 hg3 hc
            go_roundw
            case rel => exact ⟨k + 1, by go_num, by omega, ho6, hc6⟩
            case measure => simp [intOf]; omega
    · have hd : decide ((k : Int) < 64) = false := decide_eq_false (by omega)
      obtain rfl : k = 64 := by omega
      go_wp2_with fail
      go_ret
      exact ⟨_, rfl, ho.out, hc⟩
end Go.Proofs.YtlhfpnkfapghoaaDoor
end

section
/- Which operations may be, by the program. No condition but each theorem's own. -/
set_option linter.unusedVariables false
set_option linter.unusedSimpArgs false
namespace Go.Proofs.YtlhfpnkfapghoaaDoor
open Go.RowKit Go.Maps

/-- May it be? -/
def opOk (o : Opn) : Bool := decide (0 ≤ o.key) && decide (o.key < 64) && decide (0 ≤ o.val) && decide (o.val ≤ 2147483647) && (!o.wr || decide (0 < o.val))
set_option maxHeartbeats 1000000 in
theorem right_op (o : Opn) (w : World) : Calls Tryd.prog 135 #[.agg #[.bool o.wr, .int .i64 o.key, .int .i64 o.val]] w fun e w' => e = .returned (.bool (opOk o)) ∧ Ch nob w w' := by
  obtain ⟨hb, hc, _⟩ := one_new w #[.bool o.wr, .int .i64 o.key, .int .i64 o.val] 121
  obtain ⟨ow, ok, ov⟩ := o
  have HE := Lib.hid (show opOk ⟨ow, ok, ov⟩ = (decide (0 ≤ ok) && decide (ok < 64) && decide (0 ≤ ov) && decide (ov ≤ 2147483647) && (!ow || decide (0 < ov))) from rfl)
  by_cases h1 : ok < 0
  · have d1 : decide (ok < 0) = true := decide_eq_true h1
    go_enter Tryd.func135, Tryd.ntmps135
    go_wp2_with fail
    go_ret
    exact ⟨ret_bool (by rw [HE.out, decide_eq_false (show ¬ 0 ≤ ok by omega)]; rfl), hc⟩
  · have d1 : decide (ok < 0) = false := decide_eq_false h1
    by_cases h2 : (64 : Int) ≤ ok
    · have d2 : decide ((64 : Int) ≤ ok) = true := decide_eq_true h2
      go_enter Tryd.func135, Tryd.ntmps135
      go_wp2_with fail
      go_ret
      exact ⟨ret_bool (by rw [HE.out, decide_eq_false (show ¬ ok < 64 by omega)]; simp), hc⟩
    · have d2 : decide ((64 : Int) ≤ ok) = false := decide_eq_false h2
      by_cases h3 : ov < 0
      · have d3 : decide (ov < 0) = true := decide_eq_true h3
        go_enter Tryd.func135, Tryd.ntmps135
        go_wp2_with fail
        go_ret
        exact ⟨ret_bool (by rw [HE.out, decide_eq_false (show ¬ 0 ≤ ov by omega)]; simp), hc⟩
      · have d3 : decide (ov < 0) = false := decide_eq_false h3
        by_cases h4 : (2147483647 : Int) < ov
        · have d4 : decide ((2147483647 : Int) < ov) = true := decide_eq_true h4
          go_enter Tryd.func135, Tryd.ntmps135
          go_wp2_with fail
          go_ret
          exact ⟨ret_bool (by rw [HE.out, decide_eq_false (show ¬ ov ≤ 2147483647 by omega)]; simp), hc⟩
        · have d4 : decide ((2147483647 : Int) < ov) = false := decide_eq_false h4
          have HF := Lib.hid (show opOk ⟨ow, ok, ov⟩ = (!ow || decide (0 < ov)) from by
            rw [HE.out, decide_eq_true (show 0 ≤ ok by omega), decide_eq_true (show ok < 64 by omega), decide_eq_true (show 0 ≤ ov by omega), decide_eq_true (show ov ≤ 2147483647 by omega)]; rfl)
          cases ow with
          | false =>
            go_enter Tryd.func135, Tryd.ntmps135
            go_wp2_with fail
            go_ret
            exact ⟨ret_bool (by rw [HF.out]; rfl), hc⟩
          | true =>
            by_cases h5 : (0 : Int) < ov
            · have d5 : decide ((0 : Int) < ov) = true := decide_eq_true h5
              go_enter Tryd.func135, Tryd.ntmps135
              go_wp2_with fail
              go_ret
              exact ⟨ret_bool (by rw [HF.out, d5]; rfl), hc⟩
            · have d5 : decide ((0 : Int) < ov) = false := decide_eq_false h5
              go_enter Tryd.func135, Tryd.ntmps135
              go_wp2_with fail
              go_ret
              exact ⟨ret_bool (by rw [HF.out, d5]; rfl), hc⟩
end Go.Proofs.YtlhfpnkfapghoaaDoor
end
