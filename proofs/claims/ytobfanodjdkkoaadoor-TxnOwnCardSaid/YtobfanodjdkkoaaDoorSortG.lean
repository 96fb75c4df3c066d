/- The library's merge of two stretches of operations by their keys: the walk, by induction on their length. No condition but each theorem's own. -/
import Derived.Test.YtobfanodjdkkoaaDoorSortF
set_option linter.unusedVariables false
set_option linter.unusedSimpArgs false
namespace Go.Proofs.YtobfanodjdkkoaaDoor
open Go.RowKit

theorem sorted_out {D E : Nat → Opn} {a m p q : Nat} (h : Shuf a m D E) (hs : SortedOn D p q) (hp : m ≤ p) : SortedOn E p q := fun i j h1 h2 h3 => by
  rw [h.out i (by omega), h.out j (by omega)]; exact hs i j h1 h2 h3
theorem sorted_glue {D : Nat → Opn} {a s m : Nat} (h1 : SortedOn D a s) (h2 : SortedOn D s m) (has : a ≤ s) (hsm : s ≤ m) (h : ¬ (a < s ∧ s < m)) : SortedOn D a m := by
  by_cases e : a = s
  · subst e; exact h2
  · obtain rfl : s = m := by omega
    exact h1
theorem merge_end {D D3 D4 : Nat → Opn} {a s m mid e b : Nat} (H : Halves (rotR D s m e) a s mid e b) (has : a ≤ s) (hsm : s ≤ m) (hme : m ≤ e) (heb : e ≤ b) (ham : a ≤ mid) (hmb : mid ≤ b) (h1 : Shuf a mid (rotR D s m e) D3) (s1 : SortedOn D3 a mid) (h2 : Shuf mid b D3 D4) (s2 : SortedOn D4 mid b) : Shuf a b D D4 ∧ SortedOn D4 a b := by
  have h := halves_done H ham hmb h1 s1 h2 s2
  exact ⟨((rotR_shuf D s m e hsm hme).mono has heb).trans h.1, h.2⟩
def MergeAt (g N : Nat) (R : Nat → Value) (n cap a m b : Nat) (D : Nat → Opn) (w : World) : Prop :=
    Calls Tryd.prog 37 #[.slice (some ⟨g, 0, none⟩) n cap, .int .i64 a, .int .i64 m, .int .i64 b, byKeyV] w (RetMerge g N D R n a b w)
set_option maxRecDepth 100000 in
set_option maxHeartbeats 8000000 in
theorem merge_step (g N : Nat) (D : Nat → Opn) (R : Nat → Value) (n cap a m b : Nat) (w : World) (hd : OpBlk w g N D R n 33) (ham : a + 1 < m) (hmb : m + 1 < b) (hbn : b ≤ n) (hn : n ≤ 1000000) (h1 : SortedOn D a m) (h2 : SortedOn D m b)
    (ih : ∀ (D' : Nat → Opn) (a' m' b' : Nat) (w' : World), b' - a' < b - a → OpBlk w' g N D' R n 33 → a' < m' → m' < b' → b' ≤ n → SortedOn D' a' m' → SortedOn D' m' b' → MergeAt g N R n cap a' m' b' D' w') : MergeAt g N R n cap a m b D w := by
  have HD := Lib.hid hd
  have H1 := Lib.hid h1
  have H2 := Lib.hid h2
  have IH := Lib.hid ih
  have hcr := Ch.refl (· = g) w
  obtain ⟨d, hd0⟩ : ∃ d : Int, (m : Int) - (a : Int) = d := ⟨_, rfl⟩
  have hsub0 : (d == 1) = false := by simp; omega
  obtain ⟨d2, hd2⟩ : ∃ d2 : Int, (b : Int) - (m : Int) = d2 := ⟨_, rfl⟩
  have hsub2 : (d2 == 1) = false := by simp; omega
  obtain ⟨mid, hmid⟩ : ∃ mid : Nat, (a + b) / 2 = mid := ⟨_, rfl⟩
  have hm2 : ((a : Int) + (b : Int)) / 2 = (mid : Int) := by omega
  have hmid1 : a ≤ mid := by omega
  have hmid2 : mid ≤ b := by omega
  obtain ⟨nn, hnn⟩ : ∃ nn : Nat, mid + m = nn := ⟨_, rfl⟩
  have hn2 : (mid : Int) + (m : Int) = (nn : Int) := by omega
  obtain ⟨p, hp⟩ : ∃ p : Nat, nn - 1 = p := ⟨_, rfl⟩
  have hp2 : (nn : Int) - 1 = (p : Int) := by omega
  have HP := Lib.hid (show p + 1 = mid + m ∧ nn = mid + m from by omega)
  have hstart : ∃ s0 r0 : Nat, Hid (if mid < m then (nn : Int) - (b : Int) = (s0 : Int) ∧ (mid : Int) = (r0 : Int) else (a : Int) = (s0 : Int) ∧ (m : Int) = (r0 : Int)) ∧ a ≤ s0 ∧ nn ≤ b + s0 ∧ s0 ≤ r0 ∧ r0 ≤ m ∧ r0 ≤ mid ∧ ¬ (a < s0 ∧ nn < b + s0) ∧ ¬ (r0 < m ∧ r0 < mid) := by
    by_cases h : mid < m
    · exact ⟨nn - b, mid, Lib.hid (by rw [if_pos h]; omega), by omega, by omega, by omega, by omega, by omega, by omega, by omega⟩
    · exact ⟨a, m, Lib.hid (by rw [if_neg h]; omega), by omega, by omega, by omega, by omega, by omega, by omega, by omega⟩
  obtain ⟨s0, r0, hS, k1, k2, k3, k4, k5, k6, k7⟩ := hstart
  have HV := Lib.hid (show (a < s0 → nn < b + s0 → (D (s0 - 1)).key ≤ (D (nn - s0)).key) ∧ (r0 < m → r0 < mid → (D (p - r0)).key ≤ (D r0).key) from ⟨fun h h' => absurd ⟨h, h'⟩ k6, fun h h' => absurd ⟨h, h'⟩ k7⟩)
  have HA := Lib.hid (show a < mid ∧ mid < b from by omega)
  clear hd h1 h2 ih hmid hnn hp k6 k7
  unfold MergeAt
  rcases (show (mid < m) ∨ ¬ (mid < m) from by omega) with hc | hc
  all_goals first
    | have hb1 : decide ((mid : Int) < (m : Int)) = true := decide_eq_true (by omega)
    | have hb1 : decide ((mid : Int) < (m : Int)) = false := decide_eq_false (by omega)
  all_goals
    have hS1 := hS.out
    first | rw [if_pos hc] at hS1 | rw [if_neg hc] at hS1
    obtain ⟨e1, e2⟩ := hS1
    first
      | (have e3 : mid = r0 := by omega
         have e4 : (nn : Int) - (b : Int) = (s0 : Int) := e1
         subst e3
         clear e1)
      | (have e3 : m = r0 := by omega
         have e4 : a = s0 := by omega
         subst e3
         subst e4
         clear e1)
    clear e2 hS
    go_enter Tryd.func37, Tryd.ntmps37
    go_wp2_with fail
    clear hc hb1 hn2 hp2 hm2
    try clear e4
    go_loopw [20, 21] (fun x y wr => ∃ i j : Nat, x = .int .i64 i ∧ y = .int .i64 j ∧ a ≤ i ∧ nn ≤ b + i ∧ i ≤ j ∧ j ≤ m ∧ j ≤ mid ∧ Hid ((a < i → nn < b + i → (D (i - 1)).key ≤ (D (nn - i)).key) ∧ (j < m → j < mid → (D (p - j)).key ≤ (D j).key)) ∧ Hid (OpBlk wr g N D R n 33) ∧ Ch (· = g) w wr) (fun x y _ => (intOf y).toNat - (intOf x).toNat)
    case atStart => exact ⟨_, _, rfl, rfl, k1, k2, k3, k4, k5, HV, HD, hcr⟩
    case round =>
      clear HD hcr HV k1 k2 k3 k4 k5
      obtain ⟨i, j, rfl, rfl, q1, q2, q3, q4, q5, hP, hb, hc⟩ := hrel
      by_cases hlt : i < j
      · have hd1 : decide ((i : Int) < (j : Int)) = true := decide_eq_true (by omega)
        obtain ⟨h, hh⟩ : ∃ h, (i + j) / 2 = h := ⟨_, rfl⟩
        have hh1 : i ≤ h := by omega
        have hh2 : h < j := by omega
        have hhi : ((i : Int) + (j : Int)) / 2 = (h : Int) := by omega
        obtain ⟨q, hq⟩ : ∃ q, p - h = q := ⟨_, rfl⟩
        have hw : IntKind.i64.wrap ((p : Int) - (h : Int)) = (q : Int) := by
          have := HP.out
          rw [show (p : Int) - (h : Int) = (q : Int) from by omega]
          exact IntWalk.i64_in _ (by omega)
        have hqb : q < b := by have := HP.out; omega
        have HQ := Lib.hid (show q + h = p ∧ p + 1 = nn from by have := HP.out; omega)
        have hn1 : (h : Int) < (n : Int) := by omega
        have hn2 : (q : Int) < (n : Int) := by omega
        have hn0 : (0 : Int) ≤ (h : Int) := by omega
        have hn3 : (0 : Int) ≤ (q : Int) := by omega
        clear hh hq
        obtain ⟨x0, x1, x2⟩ := hb.out.at h (by omega)
        obtain ⟨y0, y1, y2⟩ := hb.out.at q (by omega)
        have X0 := fun u : Ext wr => Ext.cell x0 u
        have X1 := fun u : Ext wr => Ext.cell x1 u
        have X2 := fun u : Ext wr => Ext.cell x2 u
        have Y0 := fun u : Ext wr => Ext.cell y0 u
        have Y1 := fun u : Ext wr => Ext.cell y1 u
        have Y2 := fun u : Ext wr => Ext.cell y2 u
        have HK := Lib.hid (fun u : Ext wr => ext_of (by_key (D q) (D h) u.val))
        have CN := Lib.hid (cmpI_neg (D q).key (D h).key)
        by_cases hlt2 : (D q).key < (D h).key
        · have hcm : decide (cmpI (D q).key (D h).key < 0) = true := by rw [decide_eq_true_iff, CN.out]; exact hlt2
          have HP2 : Hid ((a < i → nn < b + i → (D (i - 1)).key ≤ (D (nn - i)).key) ∧ (h < m → h < mid → (D (p - h)).key ≤ (D h).key)) := Lib.hid ⟨hP.out.1, fun _ _ => by rw [show p - h = q from by have := HQ.out; omega]; omega⟩
          go_wp2_with fail
          refine wp_region_ch (w0 := wr) (by kernel_rfl) (by kernel_rfl) (Ch.refl _ _) ?_
          repeat (go_big_quiet_step ((go_at_call 26; exact HK.out _)))
          refine wpQuiet_nil ?_
          rintro wq ⟨⟨_, hcq⟩, rfl⟩
          have HB := Lib.hid (hb.out.keep hcq)
          have hcq2 := (hc.seq hcq)
          clear X0 X1 X2 Y0 Y1 Y2 x0 x1 x2 y0 y1 y2 HK hb hc hcq hcm hw
          go_wp2_with fail
          go_roundw
          case rel => exact ⟨i, h, rfl, rfl, q1, q2, hh1, by omega, by omega, HP2, HB, hcq2⟩
          case measure => simp [intOf]; omega
        · have hcm : decide (cmpI (D q).key (D h).key < 0) = false := by rw [decide_eq_false_iff_not, CN.out]; exact hlt2
          have HP2 : Hid ((a < h + 1 → nn < b + (h + 1) → (D (h + 1 - 1)).key ≤ (D (nn - (h + 1))).key) ∧ (j < m → j < mid → (D (p - j)).key ≤ (D j).key)) := Lib.hid ⟨fun _ _ => by rw [Nat.add_sub_cancel, show nn - (h + 1) = q from by have := HQ.out; omega]; omega, hP.out.2⟩
          go_wp2_with fail
          refine wp_region_ch (w0 := wr) (by kernel_rfl) (by kernel_rfl) (Ch.refl _ _) ?_
          repeat (go_big_quiet_step ((go_at_call 26; exact HK.out _)))
          refine wpQuiet_nil ?_
          rintro wq ⟨⟨_, hcq⟩, rfl⟩
          have HB := Lib.hid (hb.out.keep hcq)
          have hcq2 := (hc.seq hcq)
          clear X0 X1 X2 Y0 Y1 Y2 x0 x1 x2 y0 y1 y2 HK hb hc hcq hcm hw
          go_wp2_with fail
          go_roundw
          case rel => exact ⟨h + 1, j, by go_num, rfl, by omega, by omega, by omega, q4, q5, HP2, HB, hcq2⟩
          case measure => simp [intOf]; omega
      · obtain rfl : i = j := by omega
        have hd1 : decide ((i : Int) < (i : Int)) = false := by simp
        obtain ⟨wo, rfl⟩ : ∃ wo : World, wo = wr := ⟨_, rfl⟩
        obtain ⟨e, he⟩ : ∃ e, nn - i = e := ⟨_, rfl⟩
        have hei : (nn : Int) - (i : Int) = (e : Int) := by have := HP.out; omega
        have hme : m ≤ e := by have := HP.out; omega
        have heb : e ≤ b := by omega
        have HH := Lib.hid (show Halves (rotR D i m e) a i mid e b from halves H1.out H2.out q1 q4 hme heb (by have := HP.out; omega) (fun h1 h2 => by have := hP.out.1 h1 (by omega); rwa [he] at this) (fun h1 h2 => by have := hP.out.2 h1 (by have := HP.out; omega); rwa [show p - i = e - 1 from by have := HP.out; omega] at this))
        have HM := Lib.hid (show mid + m = i + e from by have := HP.out; omega)
        clear he hP hlt q2 H1 H2 q3
        rcases (show (i < m ∧ m < e) ∨ ¬ i < m ∨ (i < m ∧ ¬ m < e) from by omega) with ⟨t1, t2⟩ | t1 | ⟨t1, t2⟩
        all_goals rcases (show (a < i ∧ i < mid) ∨ ¬ a < i ∨ (a < i ∧ ¬ i < mid) from by omega) with ⟨t3, t4⟩ | t3 | ⟨t3, t4⟩
        all_goals rcases (show (mid < e ∧ e < b) ∨ ¬ mid < e ∨ (mid < e ∧ ¬ e < b) from by omega) with ⟨t5, t6⟩ | t5 | ⟨t5, t6⟩
        all_goals try (exfalso; have := HM.out; have := HA.out; omega)
        all_goals
          try first
            | have dA : decide ((i : Int) < (m : Int)) = true := decide_eq_true (by omega)
            | have dA : decide ((i : Int) < (m : Int)) = false := decide_eq_false (by omega)
          try first
            | have dB : decide ((m : Int) < (e : Int)) = true := decide_eq_true (by omega)
            | have dB : decide ((m : Int) < (e : Int)) = false := decide_eq_false (by omega)
          try first
            | have dC : decide ((a : Int) < (i : Int)) = true := decide_eq_true (by omega)
            | have dC : decide ((a : Int) < (i : Int)) = false := decide_eq_false (by omega)
          try first
            | have dD : decide ((i : Int) < (mid : Int)) = true := decide_eq_true (by omega)
            | have dD : decide ((i : Int) < (mid : Int)) = false := decide_eq_false (by omega)
          try first
            | have dE : decide ((mid : Int) < (e : Int)) = true := decide_eq_true (by omega)
            | have dE : decide ((mid : Int) < (e : Int)) = false := decide_eq_false (by omega)
          try first
            | have dF : decide ((e : Int) < (b : Int)) = true := decide_eq_true (by omega)
            | have dF : decide ((e : Int) < (b : Int)) = false := decide_eq_false (by omega)
        -- the exchange
        all_goals first
          | (have T : i < m ∧ m < e := ⟨by assumption, by assumption⟩
             clear T
             go_wp2_with fail
             refine (rotate g N D R n cap i m e _ _ hb.out (by omega) (by omega) (by omega) hn).mono ?_
             rintro x w2 ⟨rfl, hb2, hc2⟩
             have HB := Lib.hid hb2
             have hcA := hc.seqS hc2
             clear hb2 hc2 hb hc hei dA dB hd1)
          | (have HB := Lib.hid (show OpBlk wo g N (rotR D i m e) R n 33 from by
               first
                 | (rw [show i = m from by omega, rotR_left]; exact hb.out)
                 | (rw [show e = m from by omega, rotR_right]; exact hb.out))
             have hcA := hc
             clear hb hc)
        -- the first half
        all_goals first
          | (have T : a < i ∧ i < mid := ⟨by assumption, by assumption⟩
             clear T
             go_wp2_with fail
             refine Calls.mono (IH.out (rotR D i m e) a i mid _ (by have := HA.out; omega) HB.out (by omega) (by omega) (by omega) HH.out.u HH.out.x) ?_
             rintro x w3 ⟨D3, rfl, hb3, hs3, ho3, hc3⟩
             have HB3 := Lib.hid hb3
             have HS3 := Lib.hid hs3
             have HO3 := Lib.hid ho3
             have hcB := hcA.seqS hc3
             clear hb3 hc3 HB hcA hs3 ho3 dC dD
             try clear hd1
             try clear hei)
          | (obtain ⟨D3, hD3⟩ : ∃ D3, rotR D i m e = D3 := ⟨_, rfl⟩
             have HS3 := Lib.hid (show Shuf a mid (rotR D i m e) D3 from by rw [← hD3]; exact Shuf.refl _ _ _)
             have HO3 := Lib.hid (show SortedOn D3 a mid from by
               rw [← hD3]
               exact sorted_glue HH.out.u HH.out.x q1 (by have := HM.out; omega) (by omega))
             rw [hD3] at HB
             have HB3 := HB
             have hcB := hcA
             clear hD3 HB hcA)
        -- the second half
        all_goals
          have HV3 := Lib.hid (sorted_out HS3.out HH.out.v (Nat.le_refl _))
          have HY3 := Lib.hid (sorted_out HS3.out HH.out.y (by have := HM.out; omega))
        all_goals first
          | (have T : mid < e ∧ e < b := ⟨by assumption, by assumption⟩
             clear T
             go_wp2_with fail
             refine Calls.mono (IH.out D3 mid e b _ (by have := HA.out; omega) HB3.out (by omega) (by omega) (by omega) HV3.out HY3.out) ?_
             rintro x w4 ⟨D4, rfl, hb4, hs4, ho4, hc4⟩
             have hcC := hcB.seqS hc4
             have HE := Lib.hid (merge_end HH.out q1 q4 hme heb hmid1 hmid2 HS3.out HO3.out hs4 ho4)
             have HB4 := Lib.hid hb4
             clear hb4 hc4 HB3 hcB hs4 ho4 HS3 HO3 HV3 HY3
             go_wp2_with fail
             go_end0
             exact ⟨D4, rfl, HB4.out, HE.out.1, HE.out.2, hcC⟩)
          | (have HO4 := Lib.hid (sorted_glue HV3.out HY3.out (by have := HM.out; omega) heb (by omega))
             have HE := Lib.hid (merge_end HH.out q1 q4 hme heb hmid1 hmid2 HS3.out HO3.out (Shuf.refl _ _ _) HO4.out)
             clear HS3 HO3 HV3 HY3 HO4
             go_wp2_with fail
             go_end0
             exact ⟨D3, rfl, HB3.out, HE.out.1, HE.out.2, hcB⟩)
theorem merge (g N : Nat) (R : Nat → Value) (n cap : Nat) (hn : n ≤ 1000000) : ∀ (z : Nat) (D : Nat → Opn) (a m b : Nat) (w : World), b - a ≤ z → OpBlk w g N D R n 33 → a < m → m < b → b ≤ n → SortedOn D a m → SortedOn D m b → MergeAt g N R n cap a m b D w := by
  intro z
  induction z with
  | zero => intro D a m b w hz hd h1 h2 h3 h4 h5; omega
  | succ z ih =>
    intro D a m b w hz hd h1 h2 h3 h4 h5
    by_cases c1 : m = a + 1
    · subst c1; exact merge_one g N D R n cap a b w hd h2 h3 hn h5
    · by_cases c2 : b = m + 1
      · subst c2; exact merge_last g N D R n cap a m w hd (by omega) h3 hn h4
      · exact merge_step g N D R n cap a m b w hd (by omega) (by omega) h3 hn h4 h5 fun D' a' m' b' w' hl hd' k1 k2 k3 k4 k5 => ih D' a' m' b' w' (by omega) hd' k1 k2 k3 k4 k5
end Go.Proofs.YtobfanodjdkkoaaDoor
