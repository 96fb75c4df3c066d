/- Texts of this claim, merged: Ref12a Ref12b Ref12c AxQ Of12a Of12b OwnV Wit1. -/
import Derived.Test.YtlhfpnkfapghoaaDoorPk0
import Derived.Test.YtlhfpnkfapghoaaDoorPk4
import Derived.Test.YtlhfpnkfapghoaaDoorPk5
import Derived.Test.YtlhfpnkfapghoaaDoorPk6
import Derived.Test.YtlhfpnkfapghoaaDoorPk10
import Derived.Test.YtlhfpnkfapghoaaDoorPk11
section
/- The document's layer 12: the last one that is seen and writes to a key; is all right. No condition but each theorem's own. -/
set_option linter.unusedVariables false
set_option linter.unusedSimpArgs false
namespace Go.Proofs.YtlhfpnkfapghoaaDoor
open Go.RowKit

/-- What the document tells of a history, function by function: reads, writes, and whether it is sound, too. -/
structure DocG (w : World) (v : Value) (n : Nat) (fb sb tb rb : Nat → Nat → Bool) (rs : Nat → List (Int × Int)) (wk : Nat → Int → Bool) (snd : Bool) : Prop extends DocF w v n fb sb tb rb where
  rds : ∀ i, i < n → ∀ u, Ch nob w u → Calls Tryd.prog 89 #[v, .int .i64 i] u fun e w' => ∃ x, e = .returned x ∧ Prs w' x (rs i) ∧ Ch nob u w'
  wrt : ∀ i, i < n → ∀ (key : Int) u, Ch nob w u → Calls Tryd.prog 96 #[v, .int .i64 i, .int .i64 key] u fun e w' => e = .returned (.bool (wk i key)) ∧ Ch nob u w'
  sound : ∀ u, Ch nob w u → Calls Tryd.prog 107 #[v] u fun e w' => e = .returned (.bool snd) ∧ Ch nob u w'
theorem DocG.keepG {w w' : World} {v : Value} {n : Nat} {fb sb tb rb : Nat → Nat → Bool} {rs : Nat → List (Int × Int)} {wk : Nat → Int → Bool} {snd : Bool} (h : DocG w v n fb sb tb rb rs wk snd) (hc : Ch nob w w') : DocG w' v n fb sb tb rb rs wk snd :=
  ⟨h.toDocF.keep hc, fun i hi u hu => h.rds i hi u (hc.seq hu), fun i hi key u hu => h.wrt i hi key u (hc.seq hu), fun u hu => h.sound u (hc.seq hu)⟩
def seenP (l : List IPair) (wk : Nat → Int → Bool) (i : Nat) (key : Int) (x : Int) : Bool := hasP l x (i : Int) && wk x.toNat key
theorem lastPA_snoc (P : Int → Bool) (x : Int) : ∀ (l : List Int) (z : Int), lastPA P (l ++ [x]) z = if P x then x else lastPA P l z
  | [], z => rfl
  | y :: l, z => by
    show lastPA P (l ++ [x]) (if P y then y else z) = _
    rw [lastPA_snoc P x l]
    rfl
theorem take_snoc {row : List Int} {k : Nat} (h : k < row.length) : row.take (k + 1) = row.take k ++ [row.getD k 0] := by
  rw [List.take_add_one, List.getElem?_eq_getElem h, List.getD_eq_getElem?_getD, List.getElem?_eq_getElem h]
  rfl
set_option maxRecDepth 100000 in
set_option maxHeartbeats 4000000 in
theorem last_ref12 (w : World) (v rv uv : Value) (n : Nat) (fb sb tb rb : Nat → Nat → Bool) (rs : Nat → List (Int × Int)) (wk : Nat → Int → Bool) (snd : Bool) (row : List Int) (l : List IPair) (i : Nat) (key : Int) (hD : DocG w v n fb sb tb rb rs wk snd) (hr : Ints w rv row) (hrk : RowOK row n) (hl : Pairs w uv l) :
    Calls Tryd.prog 102 #[v, rv, uv, .int .i64 i, .int .i64 key] w fun e w' => e = .returned (.int .i64 (lastP (seenP l wk i key) row)) ∧ Ch nob w w' := by
  have HW := Lib.hid (fun (x : Nat) (hx : x < n) (u : World) (hc : Ch nob w u) => hD.wrt x hx key u hc)
  have HP := Lib.hid (fun (x : Int) (u : World) (hc : Ch nob w u) => has_ref02 uv l x (i : Int) u (hl.keep hc))
  obtain ⟨A, cp, rfl⟩ := hr.shape
  have HR := Lib.hid (fun (u : World) (hc : Ch nob w u) => (hr.keep hc).at.2.2)
  have hn64 := hD.le
  have hlen := hrk.len
  have HAT := Lib.hid (fun (j : Nat) (hj : j < n) => hrk.at hj)
  have HSN := Lib.hid (fun (k : Nat) (hk : k < row.length) => show lastPA (seenP l wk i key) (row.take (k + 1)) (-1) = if seenP l wk i key (row.getD k 0) then row.getD k 0 else lastPA (seenP l wk i key) (row.take k) (-1) from by rw [take_snoc hk, lastPA_snoc])
  have HEND := Lib.hid (show lastPA (seenP l wk i key) (row.take n) (-1) = lastP (seenP l wk i key) row from by rw [← hlen, List.take_length]; rfl)
  have HZ0 := Lib.hid (show lastPA (seenP l wk i key) (row.take 0) (-1) = -1 from by simp [lastPA])
  have HSP := Lib.hid (fun (x : Nat) => show seenP l wk i key (x : Int) = (hasP l (x : Int) (i : Int) && wk x key) from by unfold seenP; rw [show ((x : Int)).toNat = x from by omega])
  obtain ⟨P, hP⟩ : ∃ P, seenP l wk i key = P := ⟨_, rfl⟩
  rw [hP] at HSN HEND HZ0 HSP
  rw [hP]
  obtain ⟨z, hz⟩ : ∃ z, lastP P row = z := ⟨_, rfl⟩
  rw [hz] at HEND ⊢
  rw [hlen] at HSN HR ⊢
  clear hD hr hrk hl hlen hP hz
  go_enter Tryd.func102, Tryd.ntmps102
  go_wp2_with fail
  go_loopw [11, 12] (fun o q wr => ∃ k : Nat, q = .int .i64 k ∧ k ≤ n ∧ o = .int .i64 (lastPA P (row.take k) (-1)) ∧ Ch nob w wr) (fun _ q _ => n - (intOf q).toNat)
  case atStart => exact ⟨0, rfl, by omega, by rw [HZ0.out], Ch.refl _ _⟩
  case round =>
    obtain ⟨k, rfl, hk, rfl, hc⟩ := hrel
    by_cases hlt : k < n
    · have hd : decide ((k : Int) < (n : Int)) = true := decide_eq_true (by omega)
      obtain ⟨ad, rfl, hx⟩ := HR.out _ hc k hlt
      obtain ⟨x, hx0, hxn⟩ := HAT.out k hlt
      have hs := HSN.out k hlt
      rw [hx0] at hx hs
      have c1 := Lib.hid (HP.out (x : Int) wr hc)
      have c2 := Lib.hid (HW.out x hxn wr hc)
      have hsp := HSP.out x
      obtain ⟨b1, hb1⟩ : ∃ b, hasP l (x : Int) (i : Int) = b := ⟨_, rfl⟩
      obtain ⟨b2, hb2⟩ : ∃ b, wk x key = b := ⟨_, rfl⟩
      rw [hb1] at c1 hsp
      rw [hb2] at c2 hsp
      rw [hsp] at hs
      obtain ⟨y, hy⟩ : ∃ y, lastPA P (row.take k) (-1) = y := ⟨_, rfl⟩
      rw [hy] at hs
      rw [hy]
      have HS := Lib.hid hs
      clear hx0 hb1 hb2 hsp hy hs
      go_wp2_with fail
      refine c1.out.mono ?_
      rintro e _ ⟨rfl, rfl⟩
      clear c1
      cases b1 with
      | false =>
        have HS2 := Lib.hid (show lastPA P (row.take (k + 1)) (-1) = y from by rw [HS.out]; rfl)
        clear HS
        go_wp2_with fail
        go_roundw
        case rel => exact ⟨k + 1, by go_num, by omega, by rw [HS2.out], hc⟩
        case measure => simp [intOf]; omega
      | true =>
        go_wp2_with fail
        refine c2.out.mono ?_
        rintro e w2 ⟨rfl, hcA⟩
        have hca := hc.seq hcA
        have hxa := cell_keep hx hcA
        clear c2 hc hcA hx
        cases b2 with
        | false =>
          have HS2 := Lib.hid (show lastPA P (row.take (k + 1)) (-1) = y from by rw [HS.out]; rfl)
          clear HS
          go_wp2_with fail
          go_roundw
          case rel => exact ⟨k + 1, by go_num, by omega, by rw [HS2.out], hca⟩
          case measure => simp [intOf]; omega
        | true =>
          have HS2 := Lib.hid (show lastPA P (row.take (k + 1)) (-1) = (x : Int) from by rw [HS.out]; rfl)
          clear HS
          go_wp2_with fail
          go_roundw
          case rel => exact ⟨k + 1, by go_num, by omega, by rw [HS2.out], hca⟩
          case measure => simp [intOf]; omega
    · obtain rfl : k = n := by omega
      have hd : decide ((k : Int) < (k : Int)) = false := by simp
      rw [HEND.out]
      go_wp2_with fail
      go_ret
      exact ⟨rfl, hc⟩
/-- Does a pair come ahead, both in the row? -/
def pairOk (row : List Int) (p : IPair) : Bool := decide (0 ≤ plc row p.1) && (decide (0 ≤ plc row p.2) && decide (plc row p.1 < plc row p.2))
def readD (l : List IPair) (wk : Nat → Int → Bool) (row : List Int) (i : Nat) (xs : List (Int × Int)) : Bool := xs.all fun p => lastP (seenP l wk i p.1) row == p.2
/-- Is all right, by the document? -/
def rightD (n : Nat) (l : List IPair) (rs : Nat → List (Int × Int)) (wk : Nat → Int → Bool) (row : List Int) : Bool := rowD n row && ((l.all (pairOk row)) && (List.range n).all fun i => readD l wk row i (rs i))
theorem readD_no {l : List IPair} {wk : Nat → Int → Bool} {row : List Int} {i : Nat} {xs : List (Int × Int)} {j : Nat} (hj : j < xs.length) (h : (lastP (seenP l wk i (xs.getD j (0, 0)).1) row == (xs.getD j (0, 0)).2) = false) : readD l wk row i xs = false := by
  unfold readD
  rw [List.all_eq_false]
  exact ⟨_, getD_pr hj, by rw [h]; decide⟩
theorem readD_yes {l : List IPair} {wk : Nat → Int → Bool} {row : List Int} {i : Nat} {xs : List (Int × Int)} (h : ∀ j, j < xs.length → (lastP (seenP l wk i (xs.getD j (0, 0)).1) row == (xs.getD j (0, 0)).2) = true) : readD l wk row i xs = true := by
  unfold readD
  rw [List.all_eq_true]
  intro p hp
  obtain ⟨j, hj, rfl⟩ := List.getElem_of_mem hp
  have := h j hj
  rw [List.getD_eq_getElem?_getD, List.getElem?_eq_getElem hj] at this
  exact this
theorem all_pr_no {q : IPair → Bool} {l : List IPair} {k : Nat} (hk : k < l.length) (h : q (l.getD k (0, 0)) = false) : l.all q = false := by
  rw [List.all_eq_false]
  exact ⟨_, getD_pr hk, by rw [h]; decide⟩
theorem all_pr_yes {q : IPair → Bool} {l : List IPair} (h : ∀ k, k < l.length → q (l.getD k (0, 0)) = true) : l.all q = true := by
  rw [List.all_eq_true]
  intro p hp
  obtain ⟨j, hj, rfl⟩ := List.getElem_of_mem hp
  have := h j hj
  rw [List.getD_eq_getElem?_getD, List.getElem?_eq_getElem hj] at this
  exact this
theorem all_n_no {q : Nat → Bool} {n i : Nat} (hi : i < n) (h : q i = false) : (List.range n).all q = false := by
  rw [List.all_eq_false]
  exact ⟨i, List.mem_range.2 hi, by rw [h]; decide⟩
theorem all_n_yes {q : Nat → Bool} {n : Nat} (h : ∀ i, i < n → q i = true) : (List.range n).all q = true := by
  rw [List.all_eq_true]
  exact fun i hi => h i (List.mem_range.1 hi)
set_option maxRecDepth 100000 in
set_option maxHeartbeats 8000000 in
theorem right_ref12 (w : World) (v rv uv : Value) (n : Nat) (fb sb tb rb : Nat → Nat → Bool) (rs : Nat → List (Int × Int)) (wk : Nat → Int → Bool) (snd : Bool) (row : List Int) (l : List IPair) (hD : DocG w v n fb sb tb rb rs wk snd) (hr : Ints w rv row) (hl : Pairs w uv l) (hll : l.length ≤ 1000000) :
    Calls Tryd.prog 50 #[v, rv, uv] w fun e w' => e = .returned (.bool (rightD n l rs wk row)) ∧ Ch nob w w' := by
  have hn64 := hD.le
  have HRW := Lib.hid (row_ref12 n rv row w hr hn64)
  have HPL := Lib.hid (fun (x : Int) => place_ref11 rv row x w hr)
  have HRD := Lib.hid (fun (i : Nat) (hi : i < n) (u : World) (hc : Ch nob w u) => hD.rds i hi u hc)
  have HLA := Lib.hid (fun (hrk : RowOK row n) (i : Nat) (key : Int) (u : World) (hc : Ch nob w u) => last_ref12 u v rv uv n fb sb tb rb rs wk snd row l i key (hD.keepG hc) (hr.keep hc) hrk (hl.keep hc))
  have HZ := Lib.hid (show rightD n l rs wk row = (rowD n row && ((l.all (pairOk row)) && (List.range n).all fun i => readD l wk row i (rs i))) from rfl)
  obtain ⟨z, hz⟩ : ∃ z, rightD n l rs wk row = z := ⟨_, rfl⟩
  rw [hz] at HZ ⊢
  obtain ⟨A, cp, rfl⟩ := hD.shp
  obtain ⟨LA, lc, rfl⟩ := hl.shape
  have HC := Lib.hid hl.at.2.2
  cases hrd : rowD n row with
  | false =>
    have HR := Lib.hid (show z = false from by rw [HZ.out, hrd]; rfl)
    rw [hrd] at HRW
    clear HZ hrd hz hD hr hl
    go_enter Tryd.func50, Tryd.ntmps50
    go_wp2_with fail
    refine HRW.out.mono ?_
    rintro e _ ⟨rfl, rfl⟩
    go_wp2_with fail
    go_ret
    exact ⟨ret_bool HR.out.symm, Ch.refl _ _⟩
  | true =>
    have hrk : RowOK row n := RowOK.of_set hn64 (by rw [← rowD_is hn64]; exact hrd)
    have HLB := Lib.hid (HLA.out hrk)
    have HZ2 := Lib.hid (show z = ((l.all (pairOk row)) && (List.range n).all fun i => readD l wk row i (rs i)) from by rw [HZ.out, hrd, Bool.true_and])
    rw [hrd] at HRW
    have HB1 := Lib.hid (fun (k : Nat) (hk : k < l.length) (h : pairOk row (l.getD k (0, 0)) = false) => show z = false from by rw [HZ2.out, all_pr_no hk h]; rfl)
    obtain ⟨m, hm⟩ : ∃ m, l.length = m := ⟨_, rfl⟩
    have HM := Lib.hid hm
    rw [hm] at HLB hll ⊢
    clear HZ hrd hz hD hr hl hrk HLA hm
    go_enter Tryd.func50, Tryd.ntmps50
    go_wp2_with fail
    refine HRW.out.mono ?_
    rintro e _ ⟨rfl, rfl⟩
    clear HRW
    go_wp2_with fail
    go_loop [7] (fun q => ∃ k : Nat, q = .int .i64 k ∧ k ≤ m ∧ Hid (∀ a, a < k → pairOk row (l.getD a (0, 0)) = true)) (fun q => m - (intOf q).toNat)
    case atStart => exact ⟨0, rfl, by omega, Lib.hid (fun a h => by omega)⟩
    case round =>
      obtain ⟨k, rfl, hk, hst⟩ := hrel
      by_cases hlt : k < m
      · have hd : decide ((k : Int) < (m : Int)) = true := decide_eq_true (by omega)
        obtain ⟨ad, rfl, hx, hy⟩ := HC.out k (by rw [HM.out]; exact hlt)
        have hbad := Lib.hid (HB1.out k (by rw [HM.out]; exact hlt))
        have hnext := Lib.hid (fun (h : pairOk row (l.getD k (0, 0)) = true) => (Lib.hid (fun a ha => by
          by_cases e : a = k
          · rw [e]; exact h
          · exact hst.out a (by omega)) : Hid (∀ a, a < k + 1 → pairOk row (l.getD a (0, 0)) = true)))
        obtain ⟨p, hp⟩ : ∃ p, l.getD k (0, 0) = p := ⟨_, rfl⟩
        rw [hp] at hx hy hbad hnext
        obtain ⟨pa, pb⟩ := p
        dsimp only at hx hy
        have c1 := Lib.hid (HPL.out pa)
        have c2 := Lib.hid (HPL.out pb)
        have HPO := Lib.hid (show pairOk row (pa, pb) = (decide (0 ≤ plc row pa) && (decide (0 ≤ plc row pb) && decide (plc row pa < plc row pb))) from rfl)
        obtain ⟨u1, hu1⟩ : ∃ z, plc row pa = z := ⟨_, rfl⟩
        obtain ⟨u2, hu2⟩ : ∃ z, plc row pb = z := ⟨_, rfl⟩
        rw [hu1] at c1 HPO
        rw [hu2] at c2 HPO
        clear hp hu1 hu2 hst
        go_wp2_with fail
        refine c1.out.mono ?_
        rintro e _ ⟨rfl, rfl⟩
        go_wp2_with fail
        refine c2.out.mono ?_
        rintro e _ ⟨rfl, rfl⟩
        clear c1 c2
        by_cases q1 : u1 < 0
        · have e1 : decide (u1 < 0) = true := decide_eq_true q1
          have HR := Lib.hid (hbad.out (by rw [HPO.out, decide_eq_false (by omega)]; rfl))
          go_wp2_with fail
          go_ret
          exact ⟨ret_bool HR.out.symm, Ch.refl _ _⟩
        · have e1 : decide (u1 < 0) = false := decide_eq_false q1
          by_cases q2 : u2 < 0
          · have e2 : decide (u2 < 0) = true := decide_eq_true q2
            have HR := Lib.hid (hbad.out (by rw [HPO.out, decide_eq_false (show ¬ 0 ≤ u2 by omega)]; simp))
            clear q1 q2
            go_wp2_with fail
            go_ret
            exact ⟨ret_bool HR.out.symm, Ch.refl _ _⟩
          · have e2 : decide (u2 < 0) = false := decide_eq_false q2
            by_cases q3 : u2 ≤ u1
            · have e3 : decide (u2 ≤ u1) = true := decide_eq_true q3
              have HR := Lib.hid (hbad.out (by rw [HPO.out, decide_eq_false (show ¬ u1 < u2 by omega)]; simp))
              clear q1 q2 q3
              go_wp2_with fail
              go_ret
              exact ⟨ret_bool HR.out.symm, Ch.refl _ _⟩
            · have e3 : decide (u2 ≤ u1) = false := decide_eq_false q3
              have hh := hnext.out (by rw [HPO.out, decide_eq_true (by omega), decide_eq_true (by omega), decide_eq_true (by omega)]; rfl)
              clear q1 q2 q3
              go_wp2_with fail
              go_round
              case rel => exact ⟨k + 1, by go_num, by omega, hh⟩
              case measure => simp [intOf]; omega
      · obtain rfl : k = m := by omega
        have hd : decide ((k : Int) < (k : Int)) = false := by simp
        have HZ3 := Lib.hid (show z = (List.range n).all fun i => readD l wk row i (rs i) from by rw [HZ2.out, all_pr_yes (fun a ha => hst.out a (by rw [HM.out] at ha; exact ha)), Bool.true_and])
        have HB2 := Lib.hid (fun (i : Nat) (hi : i < n) (h : readD l wk row i (rs i) = false) => show z = false from by rw [HZ3.out]; exact all_n_no (q := fun i => readD l wk row i (rs i)) hi h)
        have HY2 := Lib.hid (fun (h : ∀ i, i < n → readD l wk row i (rs i) = true) => show z = true from by rw [HZ3.out]; exact all_n_yes (q := fun i => readD l wk row i (rs i)) h)
        clear HZ2 HZ3 HB1 hst HPL HC
        go_wp2_with fail
        go_loopw [10] (fun q wr => ∃ i : Nat, q = .int .i64 i ∧ i ≤ n ∧ Hid (∀ a, a < i → readD l wk row a (rs a) = true) ∧ Ch nob w wr) (fun q _ => n - (intOf q).toNat)
        case atStart => exact ⟨0, rfl, by omega, Lib.hid (fun a h => by omega), Ch.refl _ _⟩
        case round =>
          obtain ⟨i, rfl, hi, hst, hc⟩ := hrel
          by_cases hlt : i < n
          · have hd : decide ((i : Int) < (n : Int)) = true := decide_eq_true (by omega)
            have c1 := Lib.hid (HRD.out i hlt wr hc)
            have HBI := Lib.hid (HB2.out i hlt)
            have HNX := Lib.hid (fun (h : readD l wk row i (rs i) = true) => (Lib.hid (fun a ha => by
              by_cases e : a = i
              · rw [e]; exact h
              · exact hst.out a (by omega)) : Hid (∀ a, a < i + 1 → readD l wk row a (rs a) = true)))
            obtain ⟨xs, hxs⟩ : ∃ xs, rs i = xs := ⟨_, rfl⟩
            rw [hxs] at c1 HBI HNX
            clear hxs hst
            go_wp2_with fail
            refine c1.out.mono ?_
            rintro e w2 ⟨x, rfl, hpr, hcA⟩
            have hc2 := hc.seq hcA
            obtain ⟨XA, xc, hsh⟩ := hpr.shape
            obtain ⟨q, hq⟩ : ∃ q, xs.length = q := ⟨_, rfl⟩
            rw [hq] at hsh
            subst hsh
            have hql : q ≤ 9223372036854775807 := by have := hpr.at.2.1.2; rw [hq] at this; exact this
            have HPR := Lib.hid (fun (u : World) (hc : Ch nob w2 u) => (hpr.keep hc).at.2.2)
            have HQ := Lib.hid hq
            clear hc hcA c1 hpr hq
            go_wp2_with fail
            go_loopw [12] (fun t wv => ∃ j : Nat, t = .int .i64 j ∧ j ≤ q ∧ Hid (∀ b, b < j → (lastP (seenP l wk i (xs.getD b (0, 0)).1) row == (xs.getD b (0, 0)).2) = true) ∧ Ch nob w2 wv) (fun t _ => q - (intOf t).toNat)
            case atStart => exact ⟨0, rfl, by omega, Lib.hid (fun b h => by omega), Ch.refl _ _⟩
            case round =>
              obtain ⟨j, rfl, hj, hst2, hc⟩ := hrel
              by_cases hlt2 : j < q
              · have hd2 : decide ((j : Int) < (q : Int)) = true := decide_eq_true (by omega)
                obtain ⟨bd, rfl, hx, hy⟩ := HPR.out _ hc j (by rw [HQ.out]; exact hlt2)
                have hbad := Lib.hid (fun h => HBI.out (readD_no (j := j) (xs := xs) (by rw [HQ.out]; exact hlt2) h))
                have hnext := Lib.hid (fun (h : (lastP (seenP l wk i (xs.getD j (0, 0)).1) row == (xs.getD j (0, 0)).2) = true) => (Lib.hid (fun b hb => by
                  by_cases e : b = j
                  · rw [e]; exact h
                  · exact hst2.out b (by omega)) : Hid (∀ b, b < j + 1 → (lastP (seenP l wk i (xs.getD b (0, 0)).1) row == (xs.getD b (0, 0)).2) = true)))
                obtain ⟨p, hp⟩ : ∃ p, xs.getD j (0, 0) = p := ⟨_, rfl⟩
                rw [hp] at hx hy hbad hnext
                obtain ⟨pk, pf⟩ := p
                dsimp only at hx hy hbad hnext
                have cl := Lib.hid (fun (u : Ext wr) => ext_of (HLB.out i pk u.val (hc2.seq (hc.seq u.ch))))
                obtain ⟨lv, hlv⟩ : ∃ z, lastP (seenP l wk i pk) row = z := ⟨_, rfl⟩
                rw [hlv] at cl hbad hnext
                have X1 := fun u : Ext wr => Ext.cell hx u
                have X2 := fun u : Ext wr => Ext.cell hy u
                clear hp hlv hst2
                go_wp2_with fail
                cases hq : (lv != pf) with
                | true =>
                  have HR := Lib.hid (hbad.out (by rw [beq_eq_false_iff_ne]; exact bne_iff_ne.1 hq))
                  refine wp_region_ch (w0 := wr) (by kernel_rfl) (by kernel_rfl) (Ch.refl _ _) ?_
                  repeat go_big_quiet_step (first | (go_at_call 102; exact cl.out _))
                  refine wpQuiet_nil ?_
                  rintro wq ⟨⟨_, hcq⟩, rfl⟩
                  have hend := hc2.seq (hc.seq hcq)
                  go_wp2_with fail
                  go_ret
                  exact ⟨ret_bool HR.out.symm, hend⟩
                | false =>
                  have hh := hnext.out (by
                    rw [beq_iff_eq]
                    exact Classical.byContradiction fun h => by rw [bne_iff_ne.2 h] at hq; cases hq)
                  refine wp_region_ch (w0 := wr) (by kernel_rfl) (by kernel_rfl) (Ch.refl _ _) ?_
                  repeat go_big_quiet_step (first | (go_at_call 102; exact cl.out _))
                  refine wpQuiet_nil ?_
                  rintro wq ⟨⟨wq2, hcq⟩, hwq⟩
                  obtain rfl : wq = wq2 := hwq
                  have hcb := hc.seq hcq
                  clear hc hcq X1 X2 cl hx hy
                  go_wp2_with fail
                  go_roundw
                  case rel => exact ⟨j + 1, by go_num, by omega, hh, hcb⟩
                  case measure => simp [intOf]; omega
              · obtain rfl : j = q := by omega
                have hd2 : decide ((j : Int) < (j : Int)) = false := by simp
                have hh := HNX.out (readD_yes (fun b hb => hst2.out b (by rw [HQ.out] at hb; exact hb)))
                have hc3 := hc2.seq hc
                go_wp2_with fail
                go_roundw
                case rel => exact ⟨i + 1, by go_num, by omega, hh, hc3⟩
                case measure => simp [intOf]; omega
          · obtain rfl : i = n := by omega
            have hd : decide ((i : Int) < (i : Int)) = false := by simp
            have HR := Lib.hid (HY2.out hst.out)
            go_wp2_with fail
            go_ret
            exact ⟨ret_bool HR.out.symm, hc⟩
end Go.Proofs.YtlhfpnkfapghoaaDoor
end

section
/- The document's layer 12: is a thing that is asked not kept; is all kept; does a history keep what a level asks. No condition but each theorem's own. -/
set_option linter.unusedVariables false
set_option linter.unusedSimpArgs false
namespace Go.Proofs.YtlhfpnkfapghoaaDoor
open Go.RowKit

def brk1 (sb tb : Nat → Nat → Bool) (a : Int) (i k : Nat) : Bool := (hasI a 1 && sb i k) || (hasI a 32 && tb i k)
def brk2 (rb : Nat → Nat → Bool) (a : Int) (row : List Int) (i k : Nat) : Bool := ahB row i k && (hasI a 16 || (hasI a 8 && rb i k))
/-- Is a thing that is asked not kept by two transactions? -/
def brkB (n : Nat) (sb tb rb : Nat → Nat → Bool) (a : Int) (row : List Int) (l : List IPair) (i k : Nat) : Bool :=
  if i == k || hasP l (i : Int) (k : Int) then false else if brk1 sb tb a i k then true else if brk2 rb a row i k then true else folB (hasI a 2) (hasI a 4) (ahB row) n l i k
set_option maxRecDepth 100000 in
set_option maxHeartbeats 8000000 in
theorem broken_ref12 (w : World) (v rv uv : Value) (n : Nat) (fb sb tb rb : Nat → Nat → Bool) (a : Int) (row : List Int) (l : List IPair) (i k : Nat) (hD : DocF w v n fb sb tb rb) (hr : Ints w rv row) (hl : Pairs w uv l) (ha : 0 ≤ a ∧ a < 64) (hi : i < n) (hk : k < n) :
    Calls Tryd.prog 106 #[v, .int .i64 a, rv, uv, .int .i64 i, .int .i64 k] w fun e w' => e = .returned (.bool (brkB n sb tb rb a row l i k)) ∧ Ch nob w w' := by
  have HS := Lib.hid (hD.ses i k hi hk)
  have HT := Lib.hid (hD.tim i k hi hk)
  have HR := Lib.hid (hD.riv i k hi hk)
  have HA := Lib.hid (fun (j : Nat) (u : World) (hc : Ch nob w u) => ahead_ref11 rv row i j u (hr.keep hc))
  have HP := Lib.hid (fun (x y : Int) (u : World) (hc : Ch nob w u) => has_ref02 uv l x y u (hl.keep hc))
  have H1 := Lib.hid (has_ref a 1 ha.1 (by omega) (by omega))
  have H2 := Lib.hid (has_ref a 2 ha.1 (by omega) (by omega))
  have H4 := Lib.hid (has_ref a 4 ha.1 (by omega) (by omega))
  have H8 := Lib.hid (has_ref a 8 ha.1 (by omega) (by omega))
  have H16 := Lib.hid (has_ref a 16 ha.1 (by omega) (by omega))
  have H32 := Lib.hid (has_ref a 32 ha.1 (by omega) (by omega))
  have hn := hD.le
  have HZ := Lib.hid (show brkB n sb tb rb a row l i k = if i == k || hasP l (i : Int) (k : Int) then false else if brk1 sb tb a i k then true else if brk2 rb a row i k then true else folB (hasI a 2) (hasI a 4) (ahB row) n l i k from rfl)
  have HC1 := Lib.hid (show brk1 sb tb a i k = ((hasI a 1 && sb i k) || (hasI a 32 && tb i k)) from rfl)
  have HC2 := Lib.hid (show brk2 rb a row i k = (ahB row i k && (hasI a 16 || (hasI a 8 && rb i k))) from rfl)
  obtain ⟨A, cp, rfl⟩ := hD.shp
  obtain ⟨z, hz⟩ : ∃ z, brkB n sb tb rb a row l i k = z := ⟨_, rfl⟩
  obtain ⟨c1, hc1⟩ : ∃ z, brk1 sb tb a i k = z := ⟨_, rfl⟩
  obtain ⟨c2, hc2⟩ : ∃ z, brk2 rb a row i k = z := ⟨_, rfl⟩
  obtain ⟨b2, hb2⟩ : ∃ b, sb i k = b := ⟨_, rfl⟩
  obtain ⟨b3, hb3⟩ : ∃ b, tb i k = b := ⟨_, rfl⟩
  obtain ⟨b4, hb4⟩ : ∃ b, rb i k = b := ⟨_, rfl⟩
  obtain ⟨q1, hq1⟩ : ∃ b, hasI a 1 = b := ⟨_, rfl⟩
  obtain ⟨q2, hq2⟩ : ∃ b, hasI a 2 = b := ⟨_, rfl⟩
  obtain ⟨q4, hq4⟩ : ∃ b, hasI a 4 = b := ⟨_, rfl⟩
  obtain ⟨q8, hq8⟩ : ∃ b, hasI a 8 = b := ⟨_, rfl⟩
  obtain ⟨q16, hq16⟩ : ∃ b, hasI a 16 = b := ⟨_, rfl⟩
  obtain ⟨q32, hq32⟩ : ∃ b, hasI a 32 = b := ⟨_, rfl⟩
  rw [hz, hc1, hc2, hq2, hq4] at HZ
  rw [hc1, hq1, hq32, hb2, hb3] at HC1
  rw [hc2, hq16, hq8, hb4] at HC2
  rw [hb2] at HS
  rw [hb3] at HT
  rw [hb4] at HR
  rw [hq1] at H1
  rw [hq2] at H2
  rw [hq4] at H4
  rw [hq8] at H8
  rw [hq16] at H16
  rw [hq32] at H32
  rw [hz]
  clear hz hc1 hc2 hb2 hb3 hb4 hq1 hq2 hq4 hq8 hq16 hq32 hD hr hl ha
  by_cases hik : i = k
  · have hd : ((i : Int) == (k : Int)) = true := by rw [hik]; simp
    have HR0 := Lib.hid (show z = false from by rw [HZ.out, hik]; simp)
    clear hik
    go_enter Tryd.func106, Tryd.ntmps106
    go_wp2_with fail
    go_ret
    exact ⟨ret_bool HR0.out.symm, Ch.refl _ _⟩
  · have hd : ((i : Int) == (k : Int)) = false := by rw [beq_eq_false_iff_ne]; omega
    have hne : (i == k) = false := by rw [beq_eq_false_iff_ne]; exact hik
    have c0 := Lib.hid (HP.out (i : Int) (k : Int) w (Ch.refl _ _))
    obtain ⟨h0, hh0⟩ : ∃ b, hasP l (i : Int) (k : Int) = b := ⟨_, rfl⟩
    rw [hh0, hne, Bool.false_or] at HZ
    rw [hh0] at c0
    clear hik hne hh0
    go_enter Tryd.func106, Tryd.ntmps106
    go_wp2_with fail
    refine c0.out.mono ?_
    rintro e _ ⟨rfl, rfl⟩
    clear c0
    cases h0 with
    | true =>
      have HR0 := Lib.hid (show z = false from by rw [HZ.out]; rfl)
      go_wp2_with fail
      go_ret
      exact ⟨ret_bool HR0.out.symm, Ch.refl _ _⟩
    | false =>
      have HZ2 := Lib.hid (show z = if c1 then true else if c2 then true else folB q2 q4 (ahB row) n l i k from by rw [HZ.out]; rfl)
      clear HZ
      go_upto_region 3 with (fail)
      go_cut [40] (fun x wc => x = .bool c1 ∧ Ch nob w wc)
      case first =>
        go_wp2_with fail
        refine (H1.out w).mono ?_
        rintro e _ ⟨rfl, rfl⟩
        cases q1
        case false =>
          go_wp2_with fail
          refine (H32.out w).mono ?_
          rintro e _ ⟨rfl, rfl⟩
          cases q32
          case false =>
            go_wp2_with fail
            go_meet
            exact ⟨by rw [HC1.out]; rfl, Ch.refl _ _⟩
          case true =>
            go_wp2_with fail
            refine (HT.out w (Ch.refl _ _)).mono ?_
            rintro e w1 ⟨rfl, hcA⟩
            go_wp2_with fail
            go_meet
            exact ⟨by rw [HC1.out]; rfl, hcA⟩
        case true =>
          go_wp2_with fail
          refine (HS.out w (Ch.refl _ _)).mono ?_
          rintro e w1 ⟨rfl, hcA⟩
          cases b2
          case true =>
            go_wp2_with fail
            go_meet
            exact ⟨by rw [HC1.out]; rfl, hcA⟩
          case false =>
            go_wp2_with fail
            refine (H32.out w1).mono ?_
            rintro e _ ⟨rfl, rfl⟩
            cases q32
            case false =>
              go_wp2_with fail
              go_meet
              exact ⟨by rw [HC1.out]; rfl, hcA⟩
            case true =>
              go_wp2_with fail
              refine (HT.out w1 hcA).mono ?_
              rintro e w2 ⟨rfl, hcB⟩
              have hcc := hcA.seq hcB
              go_wp2_with fail
              go_meet
              exact ⟨by rw [HC1.out]; rfl, hcc⟩
      case rest =>
        obtain ⟨rfl, hcx⟩ := hcut
        cases c1 with
        | true =>
          have HR0 := Lib.hid (show z = true from by rw [HZ2.out]; rfl)
          go_wp2_with fail
          go_ret
          exact ⟨ret_bool HR0.out.symm, hcx⟩
        | false =>
          have HZ3 := Lib.hid (show z = if c2 then true else folB q2 q4 (ahB row) n l i k from by rw [HZ2.out]; rfl)
          have HAK := Lib.hid (HA.out k)
          have hC2 := HC2.out
          obtain ⟨b1, hb1⟩ : ∃ b, ahB row i k = b := ⟨_, rfl⟩
          rw [hb1] at HAK hC2
          have HC3 := Lib.hid hC2
          clear HZ2 HC1 HC2 hC2 hb1
          go_upto_region 5 with (fail)
          go_cut [58] (fun x wd => x = .bool c2 ∧ Ch nob w wd)
          case first =>
            go_wp2_with fail
            refine (HAK.out _ hcx).mono ?_
            rintro e _ ⟨rfl, rfl⟩
            cases b1
            case false =>
              go_wp2_with fail
              go_meet
              exact ⟨by rw [HC3.out]; rfl, hcx⟩
            case true =>
              go_wp2_with fail
              refine (H16.out _).mono ?_
              rintro e _ ⟨rfl, rfl⟩
              cases q16
              case true =>
                go_wp2_with fail
                go_meet
                exact ⟨by rw [HC3.out]; rfl, hcx⟩
              case false =>
                go_wp2_with fail
                refine (H8.out _).mono ?_
                rintro e _ ⟨rfl, rfl⟩
                cases q8
                case false =>
                  go_wp2_with fail
                  go_meet
                  exact ⟨by rw [HC3.out]; rfl, hcx⟩
                case true =>
                  go_wp2_with fail
                  refine (HR.out _ hcx).mono ?_
                  rintro e w2 ⟨rfl, hcB⟩
                  have hcc := hcx.seq hcB
                  go_wp2_with fail
                  go_meet
                  exact ⟨by rw [HC3.out]; rfl, hcc⟩
          case rest =>
            obtain ⟨rfl, hcy⟩ := hcut
            cases c2 with
            | true =>
              have HR0 := Lib.hid (show z = true from by rw [HZ3.out]; rfl)
              go_wp2_with fail
              go_ret
              exact ⟨ret_bool HR0.out.symm, hcy⟩
            | false =>
              have HZ4 := Lib.hid (show z = folB q2 q4 (ahB row) n l i k from by rw [HZ3.out]; rfl)
              obtain ⟨P, hP⟩ : ∃ P : Nat → Bool, (fun j : Nat => hasP l (j : Int) (k : Int) && (q2 && hasP l (i : Int) (j : Int) || q4 && ahB row i j)) = P := ⟨_, rfl⟩
              have HQ := Lib.hid (fun j => (congrFun hP j).symm)
              have HF := Lib.hid (show z = (List.range n).any P from by rw [HZ4.out, ← hP]; rfl)
              clear HZ3 HZ4 hP HC3 HAK
              go_wp2_with fail
              go_loop [13] (fun q => ∃ j : Nat, q = .int .i64 j ∧ j ≤ n ∧ Hid (∀ m, m < j → P m = false)) (fun q => n - (intOf q).toNat)
              case atStart => exact ⟨0, rfl, by omega, Lib.hid (fun j hj => by omega)⟩
              case round =>
                obtain ⟨j, rfl, hj, hst⟩ := hrel
                by_cases hlt : j < n
                · have hd : decide ((j : Int) < (n : Int)) = true := decide_eq_true (by omega)
                  have HNO := Lib.hid (fun (h : P j = false) => (Lib.hid (fun m hm => by
                      by_cases e : m = j
                      · rw [e]; exact h
                      · exact hst.out m (by omega)) : Hid (∀ m, m < j + 1 → P m = false)))
                  have HYES := Lib.hid (fun (h : P j = true) => show z = true from by
                      rw [HF.out, List.any_eq_true]
                      exact ⟨j, List.mem_range.2 hlt, h⟩)
                  have hpj := HQ.out j
                  have c1 := Lib.hid (HP.out (j : Int) (k : Int) _ hcy)
                  have c2 := Lib.hid (HP.out (i : Int) (j : Int) _ hcy)
                  have c3 := Lib.hid (HA.out j _ hcy)
                  obtain ⟨h1, e1⟩ : ∃ b, hasP l (j : Int) (k : Int) = b := ⟨_, rfl⟩
                  obtain ⟨h2, e2⟩ : ∃ b, hasP l (i : Int) (j : Int) = b := ⟨_, rfl⟩
                  obtain ⟨h3, e3⟩ : ∃ b, ahB row i j = b := ⟨_, rfl⟩
                  rw [e1] at c1 hpj
                  rw [e2] at c2 hpj
                  rw [e3] at c3 hpj
                  have HPJ := Lib.hid hpj
                  clear e1 e2 e3 hpj hst
                  go_wp2_with fail
                  refine c1.out.mono ?_
                  rintro e _ ⟨rfl, rfl⟩
                  cases h1
                  case false =>
                    have hh := HNO.out (by rw [HPJ.out]; rfl)
                    go_wp2_with fail
                    go_round
                    case rel => exact ⟨j + 1, by go_num, by omega, hh⟩
                    case measure => simp [intOf]; omega
                  case true =>
                    go_wp2_with fail
                    refine (H2.out _).mono ?_
                    rintro e _ ⟨rfl, rfl⟩
                    cases q2
                    case false =>
                      go_wp2_with fail
                      refine (H4.out _).mono ?_
                      rintro e _ ⟨rfl, rfl⟩
                      cases q4
                      case false =>
                        have hh := HNO.out (by rw [HPJ.out]; rfl)
                        go_wp2_with fail
                        go_round
                        case rel => exact ⟨j + 1, by go_num, by omega, hh⟩
                        case measure => simp [intOf]; omega
                      case true =>
                        go_wp2_with fail
                        refine c3.out.mono ?_
                        rintro e _ ⟨rfl, rfl⟩
                        cases h3
                        case false =>
                          have hh := HNO.out (by rw [HPJ.out]; rfl)
                          go_wp2_with fail
                          go_round
                          case rel => exact ⟨j + 1, by go_num, by omega, hh⟩
                          case measure => simp [intOf]; omega
                        case true =>
                          have hh := Lib.hid (HYES.out (by rw [HPJ.out]; rfl))
                          go_wp2_with fail
                          go_ret
                          exact ⟨ret_bool hh.out.symm, hcy⟩
                    case true =>
                      go_wp2_with fail
                      refine c2.out.mono ?_
                      rintro e _ ⟨rfl, rfl⟩
                      cases h2
                      case true =>
                        have hh := Lib.hid (HYES.out (by rw [HPJ.out]; rfl))
                        go_wp2_with fail
                        go_ret
                        exact ⟨ret_bool hh.out.symm, hcy⟩
                      case false =>
                        go_wp2_with fail
                        refine (H4.out _).mono ?_
                        rintro e _ ⟨rfl, rfl⟩
                        cases q4
                        case false =>
                          have hh := HNO.out (by rw [HPJ.out]; rfl)
                          go_wp2_with fail
                          go_round
                          case rel => exact ⟨j + 1, by go_num, by omega, hh⟩
                          case measure => simp [intOf]; omega
                        case true =>
                          go_wp2_with fail
                          refine c3.out.mono ?_
                          rintro e _ ⟨rfl, rfl⟩
                          cases h3
                          case false =>
                            have hh := HNO.out (by rw [HPJ.out]; rfl)
                            go_wp2_with fail
                            go_round
                            case rel => exact ⟨j + 1, by go_num, by omega, hh⟩
                            case measure => simp [intOf]; omega
                          case true =>
                            have hh := Lib.hid (HYES.out (by rw [HPJ.out]; rfl))
                            go_wp2_with fail
                            go_ret
                            exact ⟨ret_bool hh.out.symm, hcy⟩
                · obtain rfl : j = n := by omega
                  have hd : decide ((j : Int) < (j : Int)) = false := by simp
                  have hh : Hid (z = false) := Lib.hid (by
                    rw [HF.out, List.any_eq_false]
                    intro m hm
                    have := hst.out m (List.mem_range.1 hm)
                    rw [this]; exact Bool.false_ne_true)
                  go_wp2_with fail
                  go_ret
                  exact ⟨ret_bool hh.out.symm, hcy⟩
end Go.Proofs.YtlhfpnkfapghoaaDoor
end

section
/- The document's layer 12: is all kept; does a history keep what a level asks. No condition but each theorem's own. -/
set_option linter.unusedVariables false
set_option linter.unusedSimpArgs false
namespace Go.Proofs.YtlhfpnkfapghoaaDoor
open Go.RowKit

/-- Is all that is asked kept? -/
def keepD (n : Nat) (sb tb rb : Nat → Nat → Bool) (a : Int) (row : List Int) (l : List IPair) : Bool := (List.range n).all fun i => (List.range n).all fun k => !brkB n sb tb rb a row l i k
theorem keepD_no {n : Nat} {sb tb rb : Nat → Nat → Bool} {a : Int} {row : List Int} {l : List IPair} {i k : Nat} (hi : i < n) (hk : k < n) (h : brkB n sb tb rb a row l i k = true) : keepD n sb tb rb a row l = false :=
  all_n_no hi (all_n_no hk (by rw [h]; rfl))
theorem keepD_yes {n : Nat} {sb tb rb : Nat → Nat → Bool} {a : Int} {row : List Int} {l : List IPair} (h : ∀ i, i < n → ∀ k, k < n → brkB n sb tb rb a row l i k = false) : keepD n sb tb rb a row l = true :=
  all_n_yes fun i hi => all_n_yes fun k hk => by rw [h i hi k hk]; rfl
set_option maxRecDepth 100000 in
set_option maxHeartbeats 8000000 in
theorem keeps_ref12 (w : World) (v rv uv : Value) (n : Nat) (fb sb tb rb : Nat → Nat → Bool) (a : Int) (row : List Int) (l : List IPair) (hD : DocF w v n fb sb tb rb) (hr : Ints w rv row) (hl : Pairs w uv l) (ha : 0 ≤ a ∧ a < 64) :
    Calls Tryd.prog 54 #[v, .int .i64 a, rv, uv] w fun e w' => e = .returned (.bool (keepD n sb tb rb a row l)) ∧ Ch nob w w' := by
  have HB := Lib.hid (fun (i k : Nat) (hi : i < n) (hk : k < n) (u : World) (hc : Ch nob w u) => broken_ref12 u v rv uv n fb sb tb rb a row l i k (hD.keep hc) (hr.keep hc) (hl.keep hc) ha hi hk)
  have HNO := Lib.hid (fun (i k : Nat) (hi : i < n) (hk : k < n) => keepD_no (sb := sb) (tb := tb) (rb := rb) (a := a) (row := row) (l := l) hi hk)
  have HYES := Lib.hid (fun h => keepD_yes (n := n) (sb := sb) (tb := tb) (rb := rb) (a := a) (row := row) (l := l) h)
  have hn := hD.le
  obtain ⟨A, cp, rfl⟩ := hD.shp
  obtain ⟨P, hP⟩ : ∃ P, brkB n sb tb rb a row l = P := ⟨_, rfl⟩
  obtain ⟨z, hz⟩ : ∃ z, keepD n sb tb rb a row l = z := ⟨_, rfl⟩
  rw [hP] at HB HNO HYES
  rw [hz] at HNO HYES ⊢
  clear hP hz hD hr hl ha
  go_enter Tryd.func54, Tryd.ntmps54
  go_wp2_with fail
  go_loopw [9, 10] (fun q t wr => ∃ i : Nat, q = .int .i64 i ∧ i ≤ n ∧ Hid (∀ x, x < i → ∀ k, k < n → P x k = false) ∧ Ch nob w wr) (fun q _ _ => n - (intOf q).toNat)
  case atStart => exact ⟨0, rfl, by omega, Lib.hid (fun x hx => by omega), Ch.refl _ _⟩
  case round =>
    obtain ⟨i, rfl, hi, hst, hc⟩ := hrel
    by_cases hlt : i < n
    · have hd : decide ((i : Int) < (n : Int)) = true := decide_eq_true (by omega)
      have HBI := Lib.hid (fun (k : Nat) (hk : k < n) => HB.out i k hlt hk)
      have HNI := Lib.hid (fun (k : Nat) (hk : k < n) => HNO.out i k hlt hk)
      have HNX := Lib.hid (fun (h : ∀ k, k < n → P i k = false) => (Lib.hid (fun x hx => by
        by_cases e : x = i
        · rw [e]; exact h
        · exact hst.out x (by omega)) : Hid (∀ x, x < i + 1 → ∀ k, k < n → P x k = false)))
      clear hst
      go_wp2_with fail
      go_loopw [10] (fun t wv => ∃ k : Nat, t = .int .i64 k ∧ k ≤ n ∧ Hid (∀ y, y < k → P i y = false) ∧ Ch nob w wv) (fun t _ => n - (intOf t).toNat)
      case atStart => exact ⟨0, rfl, by omega, Lib.hid (fun x hx => by omega), hc⟩
      case round =>
        clear hc
        obtain ⟨k, rfl, hk, hst, hc⟩ := hrel
        by_cases hlt2 : k < n
        · have hd2 : decide ((k : Int) < (n : Int)) = true := decide_eq_true (by omega)
          have c1 := Lib.hid (HBI.out k hlt2 _ hc)
          have hno := Lib.hid (HNI.out k hlt2)
          have hnx := Lib.hid (fun (h : P i k = false) => (Lib.hid (fun y hy => by
            by_cases e : y = k
            · rw [e]; exact h
            · exact hst.out y (by omega)) : Hid (∀ y, y < k + 1 → P i y = false)))
          obtain ⟨b, hb⟩ : ∃ b, P i k = b := ⟨_, rfl⟩
          rw [hb] at c1 hno hnx
          clear hb hst
          go_wp2_with fail
          refine c1.out.mono ?_
          rintro e w2 ⟨rfl, hcA⟩
          have hc2 := hc.seq hcA
          cases b with
          | true =>
            have hh := Lib.hid (hno.out rfl)
            go_wp2_with fail
            go_ret
            exact ⟨ret_bool hh.out.symm, hc2⟩
          | false =>
            have hh := hnx.out rfl
            clear hno hnx
            go_wp2_with fail
            go_roundw
            case rel => exact ⟨k + 1, by go_num, by omega, hh, hc2⟩
            case measure => simp [intOf]; omega
        · obtain rfl : k = n := by omega
          have hd2 : decide ((k : Int) < (k : Int)) = false := by simp
          have hh := HNX.out hst.out
          go_wp2_with fail
          go_roundw
          case rel => exact ⟨i + 1, by go_num, by omega, hh, hc⟩
          case measure => simp [intOf]; omega
    · obtain rfl : i = n := by omega
      have hd : decide ((i : Int) < (i : Int)) = false := by simp
      have hh := Lib.hid (HYES.out hst.out)
      go_wp2_with fail
      go_ret
      exact ⟨ret_bool hh.out.symm, hc⟩
/-- Does a history keep what a level asks, by the document? -/
def holdD (a : Int) (n : Nat) (sb tb rb : Nat → Nat → Bool) (rs : Nat → List (Int × Int)) (wk : Nat → Int → Bool) (snd : Bool) (row : List Int) (l : List IPair) : Bool :=
  isL a && (snd && (rightD n l rs wk row && keepD n sb tb rb (asksI a) row l))
set_option maxRecDepth 100000 in
set_option maxHeartbeats 8000000 in
theorem holds_ref12 (w : World) (v rv uv : Value) (n : Nat) (fb sb tb rb : Nat → Nat → Bool) (rs : Nat → List (Int × Int)) (wk : Nat → Int → Bool) (snd : Bool) (a : Int) (row : List Int) (l : List IPair) (hD : DocG w v n fb sb tb rb rs wk snd) (hr : Ints w rv row) (hl : Pairs w uv l) (hll : l.length ≤ 1000000) :
    Calls Tryd.prog 55 #[v, .int .i64 a, rv, uv] w fun e w' => e = .returned (.bool (holdD a n sb tb rb rs wk snd row l)) ∧ Ch nob w w' := by
  have HS := Lib.hid (fun (u : World) (hc : Ch nob w u) => hD.sound u hc)
  have HR := Lib.hid (fun (u : World) (hc : Ch nob w u) => right_ref12 u v rv uv n fb sb tb rb rs wk snd row l (hD.keepG hc) (hr.keep hc) (hl.keep hc) hll)
  have hak : (0 : Int) ≤ (asksI a : Int) ∧ ((asksI a : Nat) : Int) < 64 := by have := asksI_lt a; omega
  have HK := Lib.hid (fun (u : World) (hc : Ch nob w u) => keeps_ref12 u v rv uv n fb sb tb rb (asksI a) row l (hD.toDocF.keep hc) (hr.keep hc) (hl.keep hc) hak)
  have HA := Lib.hid (fun (u : World) => asks_ref a u)
  have HZ := Lib.hid (show holdD a n sb tb rb rs wk snd row l = (isL a && (snd && (rightD n l rs wk row && keepD n sb tb rb (asksI a) row l))) from rfl)
  have HL : isL a = (decide (0 ≤ a) && decide (a < 12)) := by unfold isL; simp
  obtain ⟨A, cp, rfl⟩ := hD.shp
  obtain ⟨z, hz⟩ : ∃ z, holdD a n sb tb rb rs wk snd row l = z := ⟨_, rfl⟩
  obtain ⟨c2, hc2⟩ : ∃ z, rightD n l rs wk row = z := ⟨_, rfl⟩
  obtain ⟨c3, hc3⟩ : ∃ z, keepD n sb tb rb (asksI a) row l = z := ⟨_, rfl⟩
  obtain ⟨k, hk⟩ : ∃ k : Nat, asksI a = k := ⟨_, rfl⟩
  rw [hz, hc2, hc3, HL] at HZ
  rw [hc2] at HR
  rw [hc3] at HK
  rw [hk] at HK HA
  rw [hz]
  clear hz hc2 hc3 hk hD hr hl hll hak HL
  by_cases h0 : 0 ≤ a
  · have e0 : decide (0 ≤ a) = true := decide_eq_true h0
    by_cases h1 : a < 12
    · have e1 : decide (a < 12) = true := decide_eq_true h1
      have HZ2 := Lib.hid (show z = (snd && (c2 && c3)) from by rw [HZ.out, e0, e1]; rfl)
      clear HZ h0 h1
      go_enter Tryd.func55, Tryd.ntmps55
      go_wp2_with fail
      refine (HS.out _ (Ch.refl _ _)).mono ?_
      rintro e w1 ⟨rfl, hcA⟩
      cases snd with
      | false =>
        go_wp2_with fail
        go_ret
        exact ⟨ret_bool (by rw [HZ2.out]; rfl), hcA⟩
      | true =>
        go_wp2_with fail
        refine (HR.out _ hcA).mono ?_
        rintro e w2 ⟨rfl, hcB⟩
        have hcc := hcA.seq hcB
        cases c2 with
        | false =>
          go_wp2_with fail
          go_ret
          exact ⟨ret_bool (by rw [HZ2.out]; rfl), hcc⟩
        | true =>
          go_wp2_with fail
          refine (HA.out _).mono ?_
          rintro e _ ⟨rfl, rfl⟩
          go_wp2_with fail
          refine (HK.out _ hcc).mono ?_
          rintro e w3 ⟨rfl, hcD⟩
          have hce := hcc.seq hcD
          go_wp2_with fail
          go_ret
          exact ⟨ret_bool (by rw [HZ2.out]; rfl), hce⟩
    · have e1 : decide (a < 12) = false := decide_eq_false h1
      have HZ2 := Lib.hid (show z = false from by rw [HZ.out, e0, e1]; rfl)
      clear HZ h0 h1
      go_enter Tryd.func55, Tryd.ntmps55
      go_wp2_with fail
      go_ret
      exact ⟨ret_bool HZ2.out.symm, Ch.refl _ _⟩
  · have e0 : decide (0 ≤ a) = false := decide_eq_false h0
    have HZ2 := Lib.hid (show z = false from by rw [HZ.out, e0]; rfl)
    clear HZ h0
    go_enter Tryd.func55, Tryd.ntmps55
    go_wp2_with fail
    go_ret
    exact ⟨ret_bool HZ2.out.symm, Ch.refl _ _⟩
end Go.Proofs.YtlhfpnkfapghoaaDoor
end

section
/- Plain law: what is right, what is kept, and which levels are, is the document's. No condition but each theorem's own. -/
set_option linter.unusedVariables false
set_option linter.unusedSimpArgs false
namespace Go.Proofs.YtlhfpnkfapghoaaDoor
open Go.RowKit Go.Maps

theorem ah_trans {row : List Int} {i j k : Nat} (h1 : ahB row i j = true) (h2 : ahB row j k = true) : ahB row i k = true := by
  unfold ahB at h1 h2 ⊢
  rw [decide_eq_true_iff] at h1 h2 ⊢
  omega
theorem ah_ne {row : List Int} {i j : Nat} (h1 : ahB row i j = true) : i ≠ j := fun e => by rw [e, ah_irr] at h1; cases h1
/-- What the document asks for, in words. -/
theorem brk_iff {n : Nat} {sb tb rb : Nat → Nat → Bool} {a : Int} {row : List Int} {l : List IPair} {i k : Nat} : brkB n sb tb rb a row l i k = false ↔
    i = k ∨ hasP l (i : Int) (k : Int) = true ∨ (¬ (hasI a 1 = true ∧ sb i k = true) ∧ ¬ (hasI a 32 = true ∧ tb i k = true) ∧ ¬ (ahB row i k = true ∧ hasI a 16 = true) ∧ ¬ (ahB row i k = true ∧ hasI a 8 = true ∧ rb i k = true) ∧ folB (hasI a 2) (hasI a 4) (ahB row) n l i k = false) := by
  unfold brkB brk1 brk2
  by_cases e : i = k
  · simp [e]
  · have hb : (i == k) = false := by rw [beq_eq_false_iff_ne]; exact e
    rw [hb, Bool.false_or]
    cases hasP l (i : Int) (k : Int) with
    | true => simp
    | false =>
      simp only [e, false_or, Bool.false_eq_true, if_false]
      cases hasI a 1 <;> cases sb i k <;> cases hasI a 32 <;> cases tb i k <;> cases ahB row i k <;> cases hasI a 16 <;> cases hasI a 8 <;> cases rb i k <;> simp
theorem fol_iff {p2 p4 : Bool} {ah : Nat → Nat → Bool} {n : Nat} {l : List IPair} {i k : Nat} : folB p2 p4 ah n l i k = true ↔ ∃ j, j < n ∧ hasP l (j : Int) (k : Int) = true ∧ ((p2 = true ∧ hasP l (i : Int) (j : Int) = true) ∨ (p4 = true ∧ ah i j = true)) := by
  unfold folB
  rw [List.any_eq_true]
  constructor
  · rintro ⟨j, hj, h⟩
    rw [Bool.and_eq_true, Bool.or_eq_true, Bool.and_eq_true, Bool.and_eq_true] at h
    exact ⟨j, List.mem_range.1 hj, h⟩
  · rintro ⟨j, hj, h⟩
    refine ⟨j, List.mem_range.2 hj, ?_⟩
    rw [Bool.and_eq_true, Bool.or_eq_true, Bool.and_eq_true, Bool.and_eq_true]
    exact h
theorem keepD_iff {n : Nat} {fb sb tb rb : Nat → Nat → Bool} {S T F R V : Nat → Nat} {row : List Int} {l : List IPair} {a : Nat} (ha : a < 64) (hb : Bts n fb sb tb rb S T F R) (hrk : RowOK row n) (hl : Is V l) (hw : ∀ i j, i < 64 → j < 64 → E V i j → E (chainTo row row.length) i j) :
    keepD n sb tb rb (a : Int) row l = true ↔ Kept (a : Int) S T R V (chainTo row row.length) := by
  have hn := hb.hn
  have hP : ∀ i k : Nat, i < 64 → k < 64 → (hasP l (i : Int) (k : Int) = true ↔ E V i k) := fun i k hi hk => by rw [hasP_iff]; exact hl.bit hi hk
  have hC : ∀ i j, i < 64 → j < 64 → (E (chainTo row row.length) i j ↔ i < n ∧ j < n ∧ ahB row i j = true) := fun i j hi hj => hrk.chain hn i j hi hj
  have hA : ∀ m : Nat, (m = 1 ∨ m = 2 ∨ m = 4 ∨ m = 8 ∨ m = 16 ∨ m = 32) → askB (a : Int) m = hasI (a : Int) m := fun m hm => by rw [ask_has _ m hm, six_nat a ha]
  have hA1 := hA 1 (by omega)
  have hA2 := hA 2 (by omega)
  have hA4 := hA 4 (by omega)
  have hA8 := hA 8 (by omega)
  have hA16 := hA 16 (by omega)
  have hA32 := hA 32 (by omega)
  simp only [Int.cast_ofNat_Int] at hA1 hA2 hA4 hA8 hA16 hA32
  have hK : keepD n sb tb rb (a : Int) row l = true ↔ ∀ i, i < n → ∀ k, k < n → brkB n sb tb rb (a : Int) row l i k = false := by
    constructor
    · intro h i hi k hk
      cases hbb : brkB n sb tb rb (a : Int) row l i k with
      | false => rfl
      | true => rw [keepD_no hi hk hbb] at h; cases h
    · exact fun h => keepD_yes h
  rw [hK]
  constructor
  · intro h
    refine ⟨fun q i j hi hj he => ?_, fun q i j k hi hj hk h1 h2 => ?_, fun q i j k hi hj hk h1 h2 => ?_, fun q i j hi hj h1 h2 => ?_, fun q i j hi hj h1 => ?_, fun q i j hi hj he => ?_⟩
    · obtain ⟨e1, e2, e3, e4⟩ := (hb.s i j hi hj).1 he
      rcases brk_iff.1 (h i e1 j e2) with q2 | q2 | q2
      · exact absurd q2 e3
      · exact (hP i j hi hj).1 q2
      · exact absurd ⟨hA1 ▸ q, e4⟩ q2.1
    · obtain ⟨e1, e2, e3⟩ := (hC i j hi hj).1 (hw i j hi hj h1)
      obtain ⟨e4, e5, e6⟩ := (hC j k hj hk).1 (hw j k hj hk h2)
      rcases brk_iff.1 (h i e1 k e5) with q2 | q2 | q2
      · exact absurd q2 (ah_ne (ah_trans e3 e6))
      · exact (hP i k hi hk).1 q2
      · have hf : folB (hasI (a : Int) 2) (hasI (a : Int) 4) (ahB row) n l i k = true := fol_iff.2 ⟨j, e2, (hP j k hj hk).2 h2, .inl ⟨hA2 ▸ q, (hP i j hi hj).2 h1⟩⟩
        rw [q2.2.2.2.2] at hf; cases hf
    · obtain ⟨e1, e2, e3⟩ := (hC i j hi hj).1 h1
      obtain ⟨e4, e5, e6⟩ := (hC j k hj hk).1 (hw j k hj hk h2)
      rcases brk_iff.1 (h i e1 k e5) with q2 | q2 | q2
      · exact absurd q2 (ah_ne (ah_trans e3 e6))
      · exact (hP i k hi hk).1 q2
      · have hf : folB (hasI (a : Int) 2) (hasI (a : Int) 4) (ahB row) n l i k = true := fol_iff.2 ⟨j, e2, (hP j k hj hk).2 h2, .inr ⟨hA4 ▸ q, e3⟩⟩
        rw [q2.2.2.2.2] at hf; cases hf
    · obtain ⟨e1, e2, e3⟩ := (hC i j hi hj).1 h1
      rcases brk_iff.1 (h i e1 j e2) with q2 | q2 | q2
      · exact absurd q2 (ah_ne e3)
      · exact (hP i j hi hj).1 q2
      · exact absurd ⟨e3, hA8 ▸ q, (hb.r i j e1 e2).1 h2⟩ q2.2.2.2.1
    · obtain ⟨e1, e2, e3⟩ := (hC i j hi hj).1 h1
      rcases brk_iff.1 (h i e1 j e2) with q2 | q2 | q2
      · exact absurd q2 (ah_ne e3)
      · exact (hP i j hi hj).1 q2
      · exact absurd ⟨e3, hA16 ▸ q⟩ q2.2.2.1
    · obtain ⟨e1, e2, e3, e4⟩ := (hb.t i j hi hj).1 he
      rcases brk_iff.1 (h i e1 j e2) with q2 | q2 | q2
      · exact absurd q2 e3
      · exact (hP i j hi hj).1 q2
      · exact absurd ⟨hA32 ▸ q, e4⟩ q2.2.1
  · intro h i hi k hk
    refine brk_iff.2 ?_
    have hi6 : i < 64 := by omega
    have hk6 : k < 64 := by omega
    by_cases e : i = k
    · exact .inl e
    · right
      by_cases ev : hasP l (i : Int) (k : Int) = true
      · exact .inl ev
      · right
        have nv : ¬ E V i k := fun q => ev ((hP i k hi6 hk6).2 q)
        refine ⟨fun q => nv (h.ses (hA1 ▸ q.1) i k hi6 hk6 ((hb.s i k hi6 hk6).2 ⟨hi, hk, e, q.2⟩)), fun q => nv (h.tim (hA32 ▸ q.1) i k hi6 hk6 ((hb.t i k hi6 hk6).2 ⟨hi, hk, e, q.2⟩)),
          fun q => nv (h.tot (hA16 ▸ q.2) i k hi6 hk6 ((hC i k hi6 hk6).2 ⟨hi, hk, q.1⟩)), fun q => nv (h.riv (hA8 ▸ q.2.1) i k hi6 hk6 ((hC i k hi6 hk6).2 ⟨hi, hk, q.1⟩) ((hb.r i k hi hk).2 q.2.2)), ?_⟩
        cases hf : folB (hasI (a : Int) 2) (hasI (a : Int) 4) (ahB row) n l i k with
        | false => rfl
        | true =>
          obtain ⟨j, hj, h1, h2 | h2⟩ := fol_iff.1 hf
          · exact absurd (h.tr (hA2 ▸ h2.1) i j k hi6 (by omega) hk6 ((hP i j hi6 (by omega)).1 h2.2) ((hP j k (by omega) hk6).1 h1)) nv
          · exact absurd (h.pre (hA4 ▸ h2.1) i j k hi6 (by omega) hk6 ((hC i j hi6 (by omega)).2 ⟨hi, hj, h2.2⟩) ((hP j k (by omega) hk6).1 h1)) nv
theorem lastPA_same {P Q : Int → Bool} : ∀ (l : List Int) (z : Int), (∀ x ∈ l, P x = Q x) → lastPA P l z = lastPA Q l z
  | [], z, _ => rfl
  | x :: l, z, h => by
    unfold lastPA
    rw [h x (by simp)]
    exact lastPA_same l _ fun y hy => h y (by simp [hy])
theorem pairs_within {n : Nat} {V : Nat → Nat} {row : List Int} {l : List IPair} (hn : n ≤ 64) (hrk : RowOK row n) (hl : Is V l) (okV : RelOK V) : (l.all (pairOk row)) = withinR V (chainTo row row.length) := by
  have hin : ∀ x : Nat, x < n → 0 ≤ plc row (x : Int) := fun x hx => by
    obtain ⟨j, hj, he⟩ := hrk.has hx
    rw [hrk.place hj he]; omega
  rw [Bool.eq_iff_iff, withinR_iff _ _ okV, List.all_eq_true]
  constructor
  · intro h i j hi hj he
    have h1 := h _ ((hl.bit hi hj).2 he)
    unfold pairOk at h1
    rw [Bool.and_eq_true, Bool.and_eq_true, decide_eq_true_iff, decide_eq_true_iff, decide_eq_true_iff] at h1
    have h2 := (hrk.rng _ (plc_mem h1.1))
    have h3 := (hrk.rng _ (plc_mem h1.2.1))
    exact (hrk.chain hn i j hi hj).2 ⟨by omega, by omega, by unfold ahB; exact decide_eq_true h1.2.2⟩
  · rintro h ⟨a, b⟩ hm
    obtain ⟨i, j, rfl, rfl, hi, hj, he⟩ := (hasR_iff _ a b).1 ((hl.mem a b).1 hm)
    obtain ⟨h1, h2, h3⟩ := (hrk.chain hn i j hi hj).1 (h i j hi hj he)
    unfold ahB at h3
    unfold pairOk
    rw [decide_eq_true (hin i h1), decide_eq_true (hin j h2)]
    exact h3
theorem read_same {n i : Nat} {V : Nat → Nat} {f : Int → Option Nat} {wk : Nat → Int → Bool} {row : List Int} {l : List IPair} (hn : n ≤ 64) (hrk : RowOK row n) (hl : Is V l) (hi : i < n) (hW : ∀ x, x < n → ∀ key, ((f key).getD 0).testBit x = wk x key) (xs : List (Int × Int)) : readD l wk row i xs = readB (turnTo V 64 i) f row xs := by
  unfold readD readB
  congr 1
  funext p
  have : lastP (seenP l wk i p.1) row = lastP (seenW (turnTo V 64 i) ((f p.1).getD 0)) row := lastPA_same row _ fun x hx => by
    have h1 := hrk.rng x hx
    obtain ⟨y, rfl⟩ := Int.eq_ofNat_of_zero_le h1.1
    have hy : y < n := by omega
    unfold seenP seenW
    rw [hasS_nat _ _ (by omega), hasS_nat _ _ (by omega), hW y hy, show ((y : Int)).toNat = y from by omega]
    congr 1
    rw [Bool.eq_iff_iff, hasP_iff, hl.bit (by omega) (by omega)]
    exact (turned_bit V i y (by omega) (by omega)).symm
  rw [this]
theorem all_n_same {n : Nat} {p q : Nat → Bool} (h : ∀ i, i < n → p i = q i) : (List.range n).all p = (List.range n).all q := by
  rw [Bool.eq_iff_iff, List.all_eq_true, List.all_eq_true]
  constructor
  · intro h1 i hi; rw [← h i (List.mem_range.1 hi)]; exact h1 i hi
  · intro h1 i hi; rw [h i (List.mem_range.1 hi)]; exact h1 i hi
theorem rightD_is {n : Nat} {V : Nat → Nat} {f : Int → Option Nat} {rs : Nat → List (Int × Int)} {wk : Nat → Int → Bool} {row : List Int} {l : List IPair} (hn : n ≤ 64) (hl : Is V l) (okV : RelOK V) (hW : ∀ x, x < n → ∀ key, ((f key).getD 0).testBit x = wk x key) : rightD n l rs wk row = rightA n V f rs row := by
  unfold rightD rightA readsB
  rw [rowD_is hn]
  cases hr : rowBA n row with
  | false => rfl
  | true =>
    have hrk := RowOK.of_set hn hr
    rw [pairs_within hn hrk hl okV, all_n_same fun i hi => read_same hn hrk hl hi hW (rs i)]
theorem holdD_is {a : Int} {n : Nat} {fb sb tb rb : Nat → Nat → Bool} {S T F R V : Nat → Nat} {f : Int → Option Nat} {rs : Nat → List (Int × Int)} {wk : Nat → Int → Bool} {snd : Bool} {row : List Int} {l : List IPair} (hb : Bts n fb sb tb rb S T F R) (okS : RelOK S) (okT : RelOK T) (okV : RelOK V) (hl : Is V l) (hW : ∀ x, x < n → ∀ key, ((f key).getD 0).testBit x = wk x key) :
    holdD a n sb tb rb rs wk snd row l = holdsA a n S T R V f rs snd row := by
  have hn := hb.hn
  unfold holdD holdsA
  rw [rightD_is hn hl okV hW]
  cases hr : rightA n V f rs row with
  | false => rfl
  | true =>
    have hr2 := hr
    unfold rightA at hr2
    rw [Bool.and_eq_true, Bool.and_eq_true] at hr2
    have hrk := RowOK.of_set hn hr2.1
    have hw := (withinR_iff _ _ okV).1 hr2.2.1
    have : keepD n sb tb rb ((asksI a : Nat) : Int) row l = (bits .andNot .i64 ((asksI a : Nat) : Int) (keptTo (keptB S T R V (chainTo row row.length) row) 6) == 0) := by
      rw [Bool.eq_iff_iff, keepD_iff (asksI_lt a) hb hrk hl hw, kept_iff (asksI_lt a) hrk hn okS okT okV]
    rw [this]
/-- One thing kept, alone. -/
theorem kept_one (ok : Nat → Bool) (m : Nat) (hm : m = 1 ∨ m = 2 ∨ m = 4 ∨ m = 8 ∨ m = 16 ∨ m = 32) : hasI (keptTo ok 6) (m : Int) = (bits .andNot .i64 (m : Int) (keptTo ok 6) == 0) ∧ 0 ≤ keptTo ok 6 ∧ keptTo ok 6 < 64 := by
  have h : ∀ z : Fin 6, ∀ b0 b1 b2 b3 b4 b5 : Bool,
      let k := keptTo (fun i => if i = 0 then b0 else if i = 1 then b1 else if i = 2 then b2 else if i = 3 then b3 else if i = 4 then b4 else b5) 6
      hasI k ((2 ^ z.val : Nat) : Int) = (bits .andNot .i64 ((2 ^ z.val : Nat) : Int) k == 0) ∧ 0 ≤ k ∧ k < 64 := by decide +kernel
  have he : keptTo ok 6 = keptTo (fun i => if i = 0 then ok 0 else if i = 1 then ok 1 else if i = 2 then ok 2 else if i = 3 then ok 3 else if i = 4 then ok 4 else ok 5) 6 := rfl
  rw [he]
  rcases hm with rfl | rfl | rfl | rfl | rfl | rfl
  · exact h 0 _ _ _ _ _ _
  · exact h 1 _ _ _ _ _ _
  · exact h 2 _ _ _ _ _ _
  · exact h 3 _ _ _ _ _ _
  · exact h 4 _ _ _ _ _ _
  · exact h 5 _ _ _ _ _ _
theorem keep_one {n : Nat} {fb sb tb rb : Nat → Nat → Bool} {S T F R V : Nat → Nat} {f : Int → Option Nat} {rs : Nat → List (Int × Int)} {row : List Int} {l : List IPair} (hb : Bts n fb sb tb rb S T F R) (okS : RelOK S) (okT : RelOK T) (okV : RelOK V) (hl : Is V l) (hr : rightA n V f rs row = true) (m : Nat) (hm : m = 1 ∨ m = 2 ∨ m = 4 ∨ m = 8 ∨ m = 16 ∨ m = 32) :
    hasI (keptTo (keptB S T R V (chainTo row row.length) row) 6) (m : Int) = keepD n sb tb rb (m : Int) row l := by
  have hn := hb.hn
  unfold rightA at hr
  rw [Bool.and_eq_true, Bool.and_eq_true] at hr
  have hrk := RowOK.of_set hn hr.1
  have hw := (withinR_iff _ _ okV).1 hr.2.1
  have h6 : m < 64 := by omega
  rw [(kept_one _ m hm).1, Bool.eq_iff_iff, keepD_iff h6 hb hrk hl hw, kept_iff h6 hrk hn okS okT okV]
/-- What the document tells of a history that may be: reads, writes, and is it sound, too. -/
theorem docG_of {w : World} {v : Value} {hs : List Txr} {M : WM} (hv : Txns w v hs) (hn : hs.length ≤ 64) (hc : countTo hs hs.length ≤ 1024) (hm : mayH hs = true) (hM : histF hs hs.length = some M) : DocG w v hs.length (fromB M hs) (sesB hs) (timeB hs) (rivB hs) (rsAll M hs hs.length) (wkB hs) (sdAll M hs hs.length) :=
  { docF_of hv hn hc hm hM with
    rds := fun i hi u hu => (reads_ref08 u v hs i M (hv.keep hu) (by omega) hm hM hi).mono (by
      rintro e w' ⟨x, rfl, h1, h2⟩
      refine ⟨x, rfl, ?_, h2⟩
      have := OwnQ.prs h1
      unfold rsAll
      rw [if_pos hi]
      exact this)
    wrt := fun i hi key u hu => by
      obtain ⟨z, hz⟩ : ∃ z, valR (hs.getD i txrZero).ops key = z := ⟨_, rfl⟩
      have := writes_ref08 u v hs i key z (hv.keep hu) hi (by have := may_len hm hi; omega) hz
      unfold wkB
      rw [hz]
      exact this
    sound := fun u hu => sound_ref08 u v hs M (hv.keep hu) (by omega) hm hM }
theorem wF_wk {hs : List Txr} (hm : mayH hs = true) (hn : hs.length ≤ 64) (x : Nat) (hx : x < hs.length) (key : Int) : ((wF hs hs.length key).getD 0).testBit x = wkB hs x key := by
  rw [wF_bit hs key x hs.length hn, decide_eq_true hx, Bool.true_and, wkB_iff hm hx]
  rfl
end Go.Proofs.YtlhfpnkfapghoaaDoor
end

section
/- What is seen, as a relation and as pairs: one more (burgagelaw12.of's literal). No condition but each theorem's own. -/
set_option linter.unusedVariables false
set_option linter.unusedSimpArgs false
namespace Go.Proofs.YtlhfpnkfapghoaaDoor
open Go.RowKit Go.Maps

/-- Pairs lie in no block that has no such number. -/
theorem Pairs.off {S : Nat → Prop} {w w' : World} {v : Value} {xs : List IPair} (h : Pairs w v xs) (hc : Ch S w w') (hn : ∀ b, S b → ∀ i x, w.cell? ⟨b, i, none⟩ ≠ some (.int .i64 x)) : Pairs w' v xs := by
  obtain ⟨A, c, rfl, hl, hx⟩ := h
  refine ⟨A, c, rfl, hl, fun h0 => ?_⟩
  obtain ⟨ad, rfl, hcell⟩ := hx h0
  refine ⟨ad, rfl, fun j hj => ?_⟩
  have hns : ¬ S ad.block := fun hs => by
    have h1 := (hcell 0 h0).2
    have h2 := hn ad.block hs (ad.add (0 * 2)).off.succ ((xs.getD 0 (0, 0)).2)
    rw [add_block] at h1
    exact h2 h1
  have keep : ∀ p v, p.block = ad.block → w.cell? p = some v → w'.cell? p = some v := fun p v hp h1 => by
    have hb := World.block_lt_of_cell? w _ h1
    rw [hp] at hb
    exact (World.cell?_of_block (by rw [hp]; exact hc.block _ hb hns)).trans h1
  exact ⟨keep _ _ (add_block _ _) (hcell j hj).1, keep _ _ (add_block _ _) (hcell j hj).2⟩
theorem rel_no_int {w : World} {g : Nat} {V : Nat → Nat} (h : Blk w g (relArr V) 40) (i : Nat) (x : Int) : w.cell? ⟨g, i, none⟩ ≠ some (.int .i64 x) := fun hc => by
  by_cases hi : i < 64
  · rw [h.relAt i hi] at hc
    cases hc
  · have h2 : w.cell? ⟨g, i, none⟩ = none := by
      show (match w.heap[g]? with | some (.cells c _ _) => c[i]? | _ => none) = none
      rw [show w.heap[g]? = some (.cells (relArr V) 40 (0, 0)) from h]
      exact Array.getElem?_eq_none (by rw [relArr_size]; omega)
    rw [h2] at hc; cases hc
theorem one_no_int {w : World} {g : Nat} {A : Option Addr} {n c : Nat} {T : TypeId} (h : Blk w g #[.slice A n c] T) (i : Nat) (x : Int) : w.cell? ⟨g, i, none⟩ ≠ some (.int .i64 x) := fun hc => by
  by_cases hi : i = 0
  · subst hi
    rw [h.cell (i := 0) (v := .slice A n c) rfl] at hc
    cases hc
  · have h2 : w.cell? ⟨g, i, none⟩ = none := by
      show (match w.heap[g]? with | some (.cells c _ _) => c[i]? | _ => none) = none
      rw [show w.heap[g]? = some (.cells #[.slice A n c] T (0, 0)) from h]
      exact Array.getElem?_eq_none (by simp; omega)
    rw [h2] at hc; cases hc
def putIf (l : List IPair) (a b : Int) : List IPair := if rightP a b then putP l a b else l
theorem Is.addIf {r : Nat → Nat} {l : List IPair} (h : Is r l) (a b : Int) : Is (addR r a b) (putIf l a b) := by
  unfold putIf
  cases hr : rightP a b with
  | true => exact h.add a b hr
  | false => exact h.add_not a b hr
theorem putIf_len (l : List IPair) (a b : Int) : (putIf l a b).length ≤ l.length + 1 := by
  unfold putIf putP
  split
  · split <;> simp
  · omega
/-- What is seen, in two variables: the relation, and its pairs. -/
def SeesV (w : World) (g6 g7 : Nat) (V : Nat → Nat) (l : List IPair) : Prop :=
  RelOK V ∧ Is V l ∧ g6 ≠ g7 ∧ Blk w g6 (relArr V) 40 ∧ ∃ u, Blk w g7 #[u] 25 ∧ Pairs w u l
theorem SeesV.ch {w w' : World} {g6 g7 : Nat} {V : Nat → Nat} {l : List IPair} (h : SeesV w g6 g7 V l) (hc : Ch nob w w') : SeesV w' g6 g7 V l := by
  obtain ⟨h1, h2, h3, h4, u, h5, h6⟩ := h
  exact ⟨h1, h2, h3, h4.ch hc (fun h => h), u, h5.ch hc (fun h => h), h6.keep hc⟩
set_option maxRecDepth 100000 in
set_option maxHeartbeats 4000000 in
theorem of1_law12 (w : World) (g6 g7 : Nat) (V : Nat → Nat) (l : List IPair) (a b : Int) (h : SeesV w g6 g7 V l) (hll : l.length ≤ 1000000) :
    Calls Tryd.prog 101 #[.int .i64 a, .int .i64 b, .pointer (some ⟨g6, 0, none⟩), .pointer (some ⟨g7, 0, none⟩)] w fun e w' => e = .returned (.tuple #[]) ∧ SeesV w' g6 g7 (addR V a b) (putIf l a b) ∧ Ch (fun x => x = g6 ∨ x = g7) w w' := by
  obtain ⟨okV, hIs, hne, h6, u, h7, hP⟩ := h
  have okA := addR_ok okV a b
  have HIA := Lib.hid (hIs.addIf a b)
  obtain ⟨A, c, rfl⟩ := hP.shape
  have HPU := Lib.hid (fun (w1 : World) (hp : Pairs w1 (.slice A l.length c) l) => put_ref02 (.slice A l.length c) l a b w1 hp hll)
  have C1 := Lib.hid (add_rel V okV g6 a b w h6)
  have HN6 := Lib.hid (fun i x => rel_no_int h6 i x)
  have hr : rightP a b = (inS a && inS b) := rfl
  have HPI := Lib.hid (show putIf l a b = if (inS a && inS b) = true then putP l a b else l from rfl)
  obtain ⟨q, hq⟩ : ∃ q, putIf l a b = q := ⟨_, rfl⟩
  obtain ⟨z, hz⟩ : ∃ z, (inS a && inS b) = z := ⟨_, rfl⟩
  rw [hq, hz] at HPI
  rw [hq] at HIA ⊢
  rw [hz] at C1
  have HP := Lib.hid hP
  have HNE := Lib.hid hne
  clear okV hIs hr hq hz h6 hP hll hne
  go_enter Tryd.func101, Tryd.ntmps101
  go_wp2_with fail
  refine C1.out.mono ?_
  rintro e w1 ⟨rfl, h6a, hcA⟩
  have hP1 := Lib.hid (HP.out.off hcA (fun b hb i x => by
    have hb' : b = g6 := hb
    rw [hb']; exact HN6.out i x))
  have h7a := h7.ch hcA (fun e => HNE.out e.symm)
  have hc1 : Ch (fun x => x = g6 ∨ x = g7) w w1 := hcA.mono (fun i _ hi => .inl hi)
  clear C1 h7 hcA HP HN6
  cases z with
  | false =>
    have hql : q = l := by rw [HPI.out]; rfl
    subst hql
    go_wp2_with fail
    go_end0
    exact ⟨rfl, ⟨okA, HIA.out, HNE.out, h6a, _, h7a, hP1.out⟩, hc1⟩
  | true =>
    have hql : q = putP l a b := by rw [HPI.out]; rfl
    have hx := h7a.cell (i := 0) (v := .slice A l.length c) rfl
    have hQL := Lib.hid hql
    clear hql
    go_wp2_with fail
    refine (HPU.out w1 hP1.out).mono ?_
    rintro e w2 ⟨y, rfl, hpy, hcB⟩
    have h6b := h6a.ch hcB (fun h => h)
    have h7b := h7a.ch hcB (fun h => h)
    have hc2 := hc1.seq hcB
    have hfr := h7b.free 0
    have hx2 := h7b.cell (i := 0) (v := .slice A l.length c) rfl
    clear h6a h7a hc1 hx hcB HPU hP1
    obtain ⟨B, c2, rfl⟩ := hpy.shape
    go_wp2_with fail
    go_end0
    refine ⟨rfl, ⟨okA, HIA.out, HNE.out, ?_, _, h7b.set 0 _, ?_⟩, ?_⟩
    · exact h6b.ch ((Ch.refl (· = g7) _).setCell _ _ (fun _ => rfl)) HNE.out
    · rw [hQL.out]
      exact hpy.off ((Ch.refl (· = g7) _).setCell _ _ (fun _ => rfl)) (fun b hb i x => by
        have hb' : b = g7 := hb
        rw [hb']; exact one_no_int h7b i x)
    · exact hc2.seqS ((Ch.refl (fun x => x = g6 ∨ x = g7) _).setCell _ _ (fun _ => .inr rfl))
end Go.Proofs.YtlhfpnkfapghoaaDoor
end

section
/- An order, and what is seen, as a relation and as pairs (burgagelaw12.of). No condition but each theorem's own. -/
set_option linter.unusedVariables false
set_option linter.unusedSimpArgs false
namespace Go.Proofs.YtlhfpnkfapghoaaDoor
open Go.RowKit Go.Maps
attribute [local go_sem ↓] zero_rel

theorem Is.le {V : Nat → Nat} {l : List IPair} (h : Is V l) : l.length ≤ 4096 := by
  rw [show 4096 = 64 * 64 from rfl, ← sq_len 64 64]
  refine nodup_le _ _ h.once fun q hq => ?_
  obtain ⟨a, b⟩ := q
  obtain ⟨i, j, rfl, rfl, hi, hj, _⟩ := (hasR_iff _ a b).1 ((h.mem a b).1 hq)
  exact mem_sq 64 i j hi hj
theorem cell_spot {w : World} {a : Addr} {v : Value} (h : w.cell? a = some v) : a = ⟨a.block, a.off, none⟩ := by
  obtain ⟨b, o, sp⟩ := a
  cases sp with
  | none => rfl
  | some z =>
    unfold World.cell? at h
    simp at h
    split at h <;> simp at h
theorem IntsK.off {S : Nat → Prop} {w w' : World} {v : Value} {xs : List Int} (h : Ints w v xs) (hc : Ch S w w') (hn : ∀ b, S b → ∀ i x, w.cell? ⟨b, i, none⟩ ≠ some (.int .i64 x)) : Ints w' v xs := by
  obtain ⟨A, c, rfl, hl, hx⟩ := h
  refine ⟨A, c, rfl, hl, fun h0 => ?_⟩
  obtain ⟨ad, rfl, hcell⟩ := hx h0
  refine ⟨ad, rfl, fun j hj => ?_⟩
  have h1 := hcell j hj
  have hns : ¬ S ad.block := fun hs => by
    have h2 := hn (ad.add j).block (by rw [add_block]; exact hs) (ad.add j).off (xs.getD j 0)
    rw [← cell_spot h1] at h2
    exact h2 h1
  have hb := World.block_lt_of_cell? w _ h1
  rw [add_block] at hb
  exact (World.cell?_of_block (by rw [add_block]; exact hc.block _ hb hns)).trans h1
theorem results_tcr {P : Program} {fn : Func} {u p q : Tmp} {ty : TypeId} (h : fn.results = #[.tmp u, .cell p ty, .tmp q]) (tmps : Array Value) (w : World) (g : Nat) (t : TypeId) (cs : Array Value) (fr : Nat × Nat) (d : TypeDesc)
    (hp : tmps.getD p undef = .pointer (some ⟨g, 0, none⟩)) (hg : w.heap[g]? = some (.cells cs t fr))
    (hu : P.underlying ty = some d) (hd : (match d with | .struct _ | .array _ _ => true | _ => false) = true) (hi : (P.info? ty).map (·.size) = some cs.size) :
    (results fn tmps).run P w = .ok (.tuple #[tmps.getD u undef, .agg cs, tmps.getD q undef]) w := by
  have hp' : tmps[p]?.getD undef = .pointer (some ⟨g, 0, none⟩) := by simpa using hp
  simp [results, h, hp', asAddr, run_loadVar_row w g t ty cs fr d hg hu hd hi]
/-- The last region: what is handed back. -/
def r21 (rv uv : Value) (V : Nat → Nat) (L : Nat → Bool) (i : Nat) (u : Value) (w : World) : Prop :=
  match i with
  | 0 => u = rv
  | 1 => u = .agg (relArr V)
  | 2 => u = uv
  | 3 => u = rv
  | 5 => u = uv
  | _ => True
theorem r21_keep {rv uv : Value} {V : Nat → Nat} {L L2 : Nat → Bool} {i : Nat} {u : Value} {w w' : World} (h : r21 rv uv V L i u w) : r21 rv uv V L2 i u w' := h
def RetOf12 (w : World) (n : Nat) (e : Ending) (w' : World) : Prop :=
  ∃ rv row V uv l, e = .returned (.tuple #[rv, .agg (relArr V), uv]) ∧ Ints w' rv row ∧ RowOK row n ∧ RelOK V ∧ Is V l ∧ Pairs w' uv l ∧ Ch nob w w'
set_option maxRecDepth 100000 in
set_option maxHeartbeats 8000000 in
theorem of_law12 (w : World) (v : Value) (hs : List Txr) (bv : Value) (zs : List Int) (sv : Value) (bs : List Bool) (mv : Value) (ps : List IPair) (hv : Txns w v hs) (hb : IntsK .u8 w bv zs) (hz : ∀ z ∈ zs, (Lit.int .u8 z).wf = true) (hbl : Bls w sv bs) (hps : Pairs w mv ps) (h7 : hs.length ≤ 7) :
    Calls Tryd.prog 49 #[.agg #[v, bv, sv, mv]] w (RetOf12 w hs.length) := by
  have hmf : ∀ (fn : Fn) (first cap : Array Value) (w : World), (Instr.makeFunc fn first cap).run Tryd.prog w = .ok (.func fn first cap) w := fun _ _ _ _ => rfl
  have HRW := Lib.hid (fun (u : World) (hc : Ch nob w u) => row_law11 u hs.length bv zs (hb.keep hc) (fun z h => bounds_u8 (hz z h)) (by omega))
  obtain ⟨A, cp, rfl⟩ := hv.shape
  obtain ⟨SA, sc, rfl⟩ := hbl.shape
  obtain ⟨MA, mc, rfl⟩ := hps.shape
  have HBL := Lib.hid (fun (u : World) (hc : Ch nob w u) => hbl.keep hc)
  have HPS := Lib.hid (fun (u : World) (hc : Ch nob w u) => hps.keep hc)
  have hbls := hbl.at.2.1
  have hpsl := hps.at.2.1
  have hp1 := Blk.new w #[.slice A hs.length cp, bv, .slice SA bs.length sc, .slice MA ps.length mc] 27
  have hcP : Ch nob w (w.alloc (.cells #[.slice A hs.length cp, bv, .slice SA bs.length sc, .slice MA ps.length mc] 27)) := (Ch.refl _ _).alloc _
  obtain ⟨n, hn⟩ : ∃ n, hs.length = n := ⟨_, rfl⟩
  rw [hn] at hp1 hcP HRW h7 ⊢
  clear hv hb hz hbl hps hn
  go_enter Tryd.func49, Tryd.ntmps49
  have hp2 := hp1.alloc (.cells (relArr fun _ => 0) 40)
  have h3 := Blk.new (w.alloc (.cells #[.slice A n cp, bv, .slice SA bs.length sc, .slice MA ps.length mc] 27)) (relArr fun _ => 0) 40
  have hc2 := hcP.alloc (.cells (relArr fun _ => 0) 40)
  have hq0 := hp2.cell (i := 0) (v := .slice A n cp) rfl
  have hq1 := hp2.cell (i := 1) (v := bv) rfl
  clear hp1 hcP
  go_wp2_with fail
  clear hq0 hq1
  rw [World.size_alloc] at h3
  generalize (w.alloc _).alloc _ = w2 at hp2 h3 hc2 ⊢
  obtain ⟨g1, hg1⟩ : ∃ g, w.heap.size = g := ⟨_, rfl⟩
  obtain ⟨g3, hg3⟩ : ∃ g, g1 + 1 = g := ⟨_, rfl⟩
  have HG1 := Lib.hid (show w.heap.size ≤ g1 ∧ w.heap.size ≤ g3 ∧ g1 ≠ g3 by omega)
  rw [hg1] at hp2 h3 ⊢
  rw [hg3] at h3 ⊢
  clear hg1 hg3
  refine (HRW.out w2 hc2).mono ?_
  rintro e w4 ⟨rv, row, rfl, hrow, hrok, hcA⟩
  have hp4 := hp2.ch hcA (fun h => h)
  have h34 := h3.ch hcA (fun h => h)
  have hc4 := hc2.seq hcA
  obtain ⟨RA, rc, hsh⟩ := hrow.shape
  have hrl := hrok.len
  rw [hrl] at hsh
  subst hsh
  have hl1 := hp4.lt
  have hl3 := h34.lt
  clear hp2 h3 hc2 hcA HRW
  go_wp2_with fail
  obtain ⟨g6, hg6⟩ : ∃ g, w4.heap.size = g := ⟨_, rfl⟩
  obtain ⟨ge, hge⟩ : ∃ g, g6 + 1 = g := ⟨_, rfl⟩
  obtain ⟨g7, hg7⟩ : ∃ g, ge + 1 = g := ⟨_, rfl⟩
  have hn6 := (Blk.new w4 (relArr fun _ => 0) 40)
  rw [hg6] at hn6
  have hn6a := (hn6.alloc (.cells #[] 66)).alloc (.cells #[.slice (some ⟨ge, 0, none⟩) 0 0] 25)
  have hn7 := Blk.new ((w4.alloc (.cells (relArr fun _ => 0) 40)).alloc (.cells #[] 66)) #[.slice (some ⟨ge, 0, none⟩) 0 0] 25
  rw [World.size_alloc, World.size_alloc, hg6, hge, hg7] at hn7
  have hp6 := ((hp4.alloc (.cells (relArr fun _ => 0) 40)).alloc (.cells #[] 66)).alloc (.cells #[.slice (some ⟨ge, 0, none⟩) 0 0] 25)
  have h36 := ((h34.alloc (.cells (relArr fun _ => 0) 40)).alloc (.cells #[] 66)).alloc (.cells #[.slice (some ⟨ge, 0, none⟩) 0 0] 25)
  have hc46 : Ch nob w4 (((w4.alloc (.cells (relArr fun _ => 0) 40)).alloc (.cells #[] 66)).alloc (.cells #[.slice (some ⟨ge, 0, none⟩) 0 0] 25)) := (((Ch.refl _ _).alloc _).alloc _).alloc _
  rw [hg6, hge, hg7]
  have HG := Lib.hid (show w4.heap.size ≤ g6 ∧ w4.heap.size ≤ g7 ∧ g6 ≠ g7 ∧ g1 ≠ g6 ∧ g1 ≠ g7 ∧ g3 ≠ g6 ∧ g3 ≠ g7 by omega)
  have HRC := Lib.hid (fun (u : World) (hc : Ch nob w4 u) => (hrow.keep hc).at.2.2)
  have hcap := hrow.cap
  have HRL := Lib.hid hrl
  rw [hrl] at hcap
  have HBL4 := Lib.hid (fun (u : World) (hc : Ch nob w4 u) => (HBL.out u (hc4.seq hc)).at.2.2)
  have HPS4 := Lib.hid (fun (u : World) (hc : Ch nob w4 u) => (HPS.out u (hc4.seq hc)).at.2.2)
  have HROW := Lib.hid (fun (u : World) (hc : Ch nob w4 u) => hrow.keep hc)
  have HOK := Lib.hid hrok
  clear hg6 hge hg7 hn6 hp4 h34 hl1 hl3 hrow hrok hrl HBL HPS
  generalize ((w4.alloc _).alloc _).alloc _ = w6 at hn6a hn7 hp6 h36 hc46 ⊢
  have hs6 : SeesV w6 g6 g7 (fun _ => 0) [] := ⟨fun _ => (by show 0 < _; decide), Is.none, HG.out.2.2.1, hn6a, _, hn7, ⟨_, _, rfl, by simp, fun h => absurd h (by simp)⟩⟩
  clear hn6a hn7
  go_loopw [8, 26] (fun t q wr => ∃ (i a : Nat) (V : Nat → Nat) (l : List IPair), q = .int .i64 i ∧ t = .int .i64 a ∧ i ≤ n ∧ a ≤ 8 * i ∧ SeesV wr g6 g7 V l ∧ Blk wr g1 #[.slice A n cp, bv, .slice SA bs.length sc, .slice MA ps.length mc] 27 ∧ Blk wr g3 (relArr fun _ => 0) 40 ∧ Ch nob w4 wr) (fun _ q _ => n - (intOf q).toNat)
  case atStart => exact ⟨0, 0, fun _ => 0, [], rfl, rfl, by omega, by omega, hs6, hp6, h36, hc46⟩
  case round =>
    clear hs6 hp6 h36 hc46
    obtain ⟨i, t, V, l, rfl, rfl, hi, ht, hs, hp, h3, hc⟩ := hrel
    by_cases hlt : i < n
    · have hd : decide ((i : Int) < (n : Int)) = true := decide_eq_true (by omega)
      obtain ⟨ad, rfl, hx⟩ := HRC.out _ hc i (by rw [HRL.out]; exact hlt)
      obtain ⟨y, hy⟩ : ∃ y, row.getD i 0 = y := ⟨_, rfl⟩
      rw [hy] at hx
      have hk1 : (i : Int) ≤ (n : Int) := by omega
      have hk2 : (i : Int) ≤ (rc : Int) := by omega
      have hk3 : (0 : Int) ≤ (i : Int) := by omega
      have hk4 : ¬ (i : Int) < 0 := by omega
      have ht0 : t ≤ 8 * i + 0 := by omega
      clear hy
      go_wp2_with fail
      clear hx
      go_loopw [8, 35] (fun tv q wr => ∃ (j a : Nat) (V : Nat → Nat) (l : List IPair), q = .int .i64 j ∧ tv = .int .i64 a ∧ j ≤ i ∧ a ≤ 8 * i + j ∧ SeesV wr g6 g7 V l ∧ Blk wr g1 #[.slice A n cp, bv, .slice SA bs.length sc, .slice MA ps.length mc] 27 ∧ Blk wr g3 (relArr fun _ => 0) 40 ∧ Ch nob w4 wr) (fun _ q _ => i - (intOf q).toNat)
      case atStart => exact ⟨0, t, V, l, rfl, rfl, by omega, by omega, hs, hp, h3, hc⟩
      case round =>
        clear hs hp h3 hc ht ht0
        obtain ⟨j, t, V, l, rfl, rfl, hj, ht, hs, hp, h3, hc⟩ := hrel
        by_cases hlt2 : j < i
        · have hd2 : decide ((j : Int) < (i : Int)) = true := decide_eq_true (by omega)
          obtain ⟨ad2, he, hx⟩ := HRC.out _ hc j (by rw [HRL.out]; omega)
          obtain rfl : ad = ad2 := by simpa using he
          obtain ⟨z, hz⟩ : ∃ z, row.getD j 0 = z := ⟨_, rfl⟩
          rw [hz] at hx
          have hq := hp.cell (i := 2) (v := .slice SA bs.length sc) rfl
          clear he hz
          by_cases hsb : t < bs.length
          · have hd3 : decide ((t : Int) < (bs.length : Int)) = true := decide_eq_true (by omega)
            obtain ⟨bd, rfl, hbc⟩ := HBL4.out _ hc t hsb
            obtain ⟨b, hb⟩ : ∃ b, bs.getD t false = b := ⟨_, rfl⟩
            rw [hb] at hbc
            clear hb
            cases b with
            | false =>
              go_wp2_with fail
              go_roundw
              case rel => exact ⟨j + 1, t + 1, V, l, by go_num, by go_num, by omega, by omega, hs, hp, h3, hc⟩
              case measure => simp [intOf]; omega
            | true =>
              go_wp2_with fail
              refine (of1_law12 _ g6 g7 V l z y hs (by have := hs.2.1.le; omega)).mono ?_
              rintro e w7 ⟨rfl, hsa, hch⟩
              have hpa := hp.ch hch (fun e => e.elim HG.out.2.2.2.1 HG.out.2.2.2.2.1)
              have h3a := h3.ch hch (fun e => e.elim HG.out.2.2.2.2.2.1 HG.out.2.2.2.2.2.2)
              have hca : Ch nob w4 w7 := hc.trans hch (fun k hk e => by rcases e with e | e <;> have := HG.out <;> omega)
              clear hs hp h3 hc hch hq hx hbc
              go_wp2_with fail
              go_roundw
              case rel => exact ⟨j + 1, t + 1, _, _, by go_num, by go_num, by omega, by omega, hsa, hpa, h3a, hca⟩
              case measure => simp [intOf]; omega
          · have hd3 : decide ((t : Int) < (bs.length : Int)) = false := decide_eq_false (by omega)
            go_wp2_with fail
            go_roundw
            case rel => exact ⟨j + 1, t + 1, V, l, by go_num, by go_num, by omega, by omega, hs, hp, h3, hc⟩
            case measure => simp [intOf]; omega
        · obtain rfl : j = i := by omega
          have hd2 : decide ((j : Int) < (j : Int)) = false := by simp
          go_wp2_with fail
          go_roundw
          case rel => exact ⟨j + 1, t, V, l, by go_num, rfl, by omega, by omega, hs, hp, h3, hc⟩
          case measure => simp [intOf]; omega
    · obtain rfl : i = n := by omega
      have hd : decide ((i : Int) < (i : Int)) = false := by simp
      have hq := hp.cell (i := 3) (v := .slice MA ps.length mc) rfl
      go_wp2_with fail
      clear hq
      go_loopw [62] (fun q wr => ∃ (j : Nat) (V : Nat → Nat) (l : List IPair), q = .int .i64 j ∧ j ≤ ps.length ∧ SeesV wr g6 g7 V l ∧ Blk wr g3 (relArr fun _ => 0) 40 ∧ Ch nob w4 wr) (fun q _ => ps.length - (intOf q).toNat)
      case atStart => exact ⟨0, V, l, rfl, by omega, hs, h3, hc⟩
      case round =>
        clear hs hp h3 hc ht
        obtain ⟨j, V, l, rfl, hj, hs, h3, hc⟩ := hrel
        by_cases hlt2 : j < ps.length
        · have hd2 : decide ((j : Int) < (ps.length : Int)) = true := decide_eq_true (by omega)
          obtain ⟨ad, rfl, hx1, hx2⟩ := HPS4.out _ hc j hlt2
          obtain ⟨p, hpp⟩ : ∃ p, ps.getD j (0, 0) = p := ⟨_, rfl⟩
          rw [hpp] at hx1 hx2
          obtain ⟨a, b⟩ := p
          clear hpp
          simp only at hx1 hx2
          have hs2 := hs.ch ((Ch.refl nob wr).alloc (.cells #[.int .i64 a, .int .i64 b] 66))
          have h32 := h3.alloc (.cells #[.int .i64 a, .int .i64 b] 66)
          have hc2 := hc.alloc (.cells #[.int .i64 a, .int .i64 b] 66)
          have hb2 := Blk.new wr #[.int .i64 a, .int .i64 b] 66
          clear hs h3 hc
          go_wp2_with fail
          refine (of1_law12 _ g6 g7 V l a b hs2 (by have := hs2.2.1.le; omega)).mono ?_
          rintro e w7 ⟨rfl, hsa, hch⟩
          have h3a := h32.ch hch (fun e => e.elim HG.out.2.2.2.2.2.1 HG.out.2.2.2.2.2.2)
          have hca : Ch nob w4 w7 := hc2.trans hch (fun k hk e => by rcases e with e | e <;> have := HG.out <;> omega)
          clear hs2 h32 hc2 hch hb2 hx1 hx2
          go_wp2_with fail
          go_roundw
          case rel => exact ⟨j + 1, _, _, by go_num, by omega, hsa, h3a, hca⟩
          case measure => simp [intOf]; omega
        · obtain rfl : j = ps.length := by omega
          have hd2 : decide ((ps.length : Int) < (ps.length : Int)) = false := by simp
          have hrow := HROW.out _ hc
          have hrok := HOK.out
          have hca := hc4.seq hc
          clear HROW HOK HRC HPS4 HBL4 hc hc4
          go_wp2_with fail
          obtain ⟨okV, hIs, _, h6, uv, h7, hpu⟩ := hs
          obtain ⟨PA, pc, rfl⟩ := hpu.shape
          have hx7 := h7.cell (i := 0) (v := .slice PA l.length pc) rfl
          refine wp_region_led2 (r21 (.slice RA i rc) (.slice PA l.length pc) V) (fun L u => Ch (· = g3) wr u ∧ Blk u g3 (relArr (if L 4 then V else fun _ => 0)) 40) (by kernel_rfl) (by kernel_rfl) (by rfl) (by kernel_rfl) ⟨(Ch.refl _ _).drew, h3⟩ ?_ ?_
          · intro k o hk2 L ac wq hI hk K hK
            obtain ⟨hcq, h3q⟩ := hI
            have ht3 : ac.tmps[3]? = some (.pointer (some ⟨g3, 0, none⟩)) := (hk.old 3 (by decide +kernel)).trans rfl
            have ht5 : ac.tmps[5]? = some (.slice RA i rc) := (hk.old 5 (by decide +kernel)).trans rfl
            have ht6 : ac.tmps[6]? = some (.pointer (some ⟨g6, 0, none⟩)) := (hk.old 6 (by decide +kernel)).trans rfl
            have ht7 : ac.tmps[7]? = some (.pointer (some ⟨g7, 0, none⟩)) := (hk.old 7 (by decide +kernel)).trans rfl
            have h6q := h6.ch hcq (fun e => HG.out.2.2.2.2.2.1 e.symm)
            have h7q := (h7.ch hcq (fun e => HG.out.2.2.2.2.2.2 e.symm)).cell (i := 0) (v := .slice PA l.length pc) rfl
            have hnew := hk.new
            have Keep : ∀ v, k ≠ 4 → r21 (.slice RA i rc) (.slice PA l.length pc) V (mark L k) k v wq → K (ac.put o.dst v) wq := fun v hne hr => hK v wq ⟨hcq, by rw [mark_ne (Ne.symm hne)]; exact h3q⟩ hr (fun j u p s _ _ _ _ _ h => r21_keep h)
            have hk6 : k < 6 := (List.getElem?_eq_some_iff.1 hk2).1
            have hkk : k = 0 ∨ k = 1 ∨ k = 2 ∨ k = 3 ∨ k = 4 ∨ k = 5 := by omega
            rcases hkk with rfl | rfl | rfl | rfl | rfl | rfl
            · cases hk2
              have e1 := yld_slot ht5
              exact yld_one (v := .slice RA i rc) (w' := wq) rfl (by simp only [execOp, e1]; rfl) (Keep _ (by decide) rfl)
            · cases hk2
              refine wpList_load_rowG rfl 40 (.tmp 6) rfl g6 (yld_slot ht6) 40 (relArr V) (0, 0) _ h6q rfl rfl (by rw [relArr_size]; kernel_rfl) ?_
              exact Keep _ (by decide) rfl
            · cases hk2
              exact yld_one (v := .slice PA l.length pc) (w' := wq) rfl (by go_simp) (Keep _ (by decide) rfl)
            · cases hk2
              obtain ⟨v0, h0, k0⟩ := hk.val ⟨0, .data⟩ (by simp) rfl _ 73 rfl rfl
              rw [show v0 = .slice RA i rc from k0] at h0
              have e1 := yld_slot h0
              exact yld_one (v := .slice RA i rc) (w' := wq) rfl (by simp only [execOp, e1]; rfl) (Keep _ (by decide) rfl)
            · cases hk2
              obtain ⟨v0, h0, k0⟩ := hk.val ⟨1, .data⟩ (by simp) rfl _ 74 rfl rfl
              rw [show v0 = .agg (relArr V) from k0] at h0
              refine wpList_store_row rfl 40 (.tmp 3) (.tmp 74) rfl g3 (relArr V) (yld_slot ht3) (yld_slot h0) 40 _ h3q (by rw [relArr_size]; kernel_rfl) (by rw [relArr_size, relArr_size]) (relArr_cells _) ?_
              refine hK undef _ ⟨hcq.setRow _ _ (fun _ => rfl), ?_⟩ trivial (fun j u p s _ _ _ _ _ h => r21_keep h)
              rw [mark_same, if_pos rfl]
              exact h3q.row _
            · cases hk2
              obtain ⟨v0, h0, k0⟩ := hk.val ⟨2, .data⟩ (by simp) rfl _ 75 rfl rfl
              rw [show v0 = .slice PA l.length pc from k0] at h0
              have e1 := yld_slot h0
              exact yld_one (v := .slice PA l.length pc) (w' := wq) rfl (by simp only [execOp, e1]; rfl) (Keep _ (by decide) rfl)
          · intro L vals w9 hL hI hvl
            obtain ⟨hc9, h39⟩ := hI
            rw [hL 4 (by decide), if_pos rfl] at h39
            have e3 : vals 3 = .slice RA i rc := hvl 3 _ 2 rfl rfl
            have e5 : vals 5 = .slice PA l.length pc := hvl 5 _ 4 rfl rfl
            clear hvl hL
            have hr9 := hrow.off hc9 (fun b hb k x => by
              have hb' : b = g3 := hb
              rw [hb']; exact rel_no_int h3 k x)
            have hp9 := hpu.off hc9 (fun b hb k x => by
              have hb' : b = g3 := hb
              rw [hb']; exact rel_no_int h3 k x)
            have hend := hca.fresh hc9 HG1.out.2.1
            simp only [putAll, Act.put, List.setIfInBounds_toArray, List.set_cons_succ, List.set_cons_zero]
            rw [e3, e5]
            go_wp2_with fail
            refine bodyPost_ret (v := .tuple #[.slice RA i rc, .agg (relArr V), .slice PA l.length pc]) ?_ rfl ⟨_, _, V, _, l, rfl, hr9, hrok, okV, hIs, hp9, hend⟩
            exact (results_tcr (fn := Tryd.f49) (u := 2) (p := 3) (q := 4) rfl _ w9 g3 40 (relArr V) (0, 0) _ rfl h39 rfl rfl (by rw [relArr_size]; kernel_rfl)).trans rfl
end Go.Proofs.YtlhfpnkfapghoaaDoor
end

section
/- Rows of a call's own that hold any values of one cell each. No condition. -/
set_option linter.unusedVariables false
set_option linter.unusedSimpArgs false
namespace Go.Proofs.YtlhfpnkfapghoaaDoor
open Go.RowKit

/-- A row of the call's own: these values. -/
def OwnV (w : World) (base e : Nat) (v : Value) (xs : List Value) : Prop := w.ownsRow base e 1 v xs.length xs
theorem OwnV.nil (w : World) (base e : Nat) : OwnV w base e (.slice none 0 0) [] := World.ownsRow_nil w base e 1
theorem OwnV.grown {w w' : World} {base e : Nat} {v : Value} {xs : List Value} (h : OwnV w base e v xs) {row : Option Nat} (hg : w.grownBy w' row) (hne : ∀ b, v.ownBlock = some b → row ≠ some b) : OwnV w' base e v xs :=
  World.ownsRow.kept h hg (by
    cases hv : v.ownBlock with
    | none => exact .inl rfl
    | some b => exact .inr fun he => hne b hv he.symm)
theorem OwnV.keep {w w' : World} {base e : Nat} {v : Value} {xs : List Value} (h : OwnV w base e v xs) (hc : Ch nob w w') : OwnV w' base e v xs := h.grown (grown_of_ch hc none) (fun _ _ h => by cases h)
theorem OwnV.other {w w' : World} {g : Nat} {base e : Nat} {v : Value} {xs : List Value} (h : OwnV w base e v xs) (hc : Ch (· = g) w w') (hn : v.ownBlock ≠ some g) : OwnV w' base e v xs := h.grown (grown_of_ch1 hc) (fun b hb he => hn (by rw [hb, he]))
theorem OwnV.ge {w : World} {base e : Nat} {v : Value} {xs : List Value} (h : OwnV w base e v xs) (b : Nat) (hb : v.ownBlock = some b) : base ≤ b ∧ b < w.heap.size := World.ownsRow.lt h b hb
theorem OwnV.ne {w : World} {base e : Nat} {v : Value} {xs : List Value} (h : OwnV w base e v xs) {g : Nat} {cs : Array Value} {T : TypeId} (hb : Blk w g cs T) (ht : e ≠ T) : v.ownBlock ≠ some g := by
  intro hv
  rcases h.2 with ⟨h1, _⟩ | ⟨g', cap, cur, h1, _, hg, _⟩
  · rw [h1] at hv; cases hv
  · rw [h1] at hv
    have : g' = g := by simpa [Value.ownBlock] using hv
    subst this
    have h2 : w.heap[g']? = some (.cells cs T (0, 0)) := hb
    rw [hg] at h2
    simp at h2
    exact ht h2.2
theorem OwnV.alloc {w : World} {base e : Nat} {v : Value} {xs : List Value} (h : OwnV w base e v xs) (o : Go.Obj) : OwnV (w.alloc o) base e v xs := World.ownsRow.alloc h o
theorem OwnV.made (w : World) (base e : Nat) (hb : base ≤ w.heap.size) : OwnV (w.alloc (.cells #[] e)) base e (.slice (some ⟨w.heap.size, 0, none⟩) 0 0) [] :=
  World.ownsRow_made w #[] 0 hb (by unfold maxLen; omega) (by simp)
/-- What it reads as: nil, or a block whose cells hold them. -/
theorem OwnV.read {w : World} {base e : Nat} {v : Value} {xs : List Value} (h : OwnV w base e v xs) : (v = .slice none 0 0 ∧ xs = []) ∨ ∃ g c, v = .slice (some ⟨g, 0, none⟩) xs.length c ∧ base ≤ g ∧ g < w.heap.size ∧ xs.length ≤ c ∧ ∀ (j : Nat) x, xs[j]? = some x → w.cell? ⟨g, 0 + j, none⟩ = some x := by
  have h0 := h.2
  rcases h0 with ⟨hv, hn⟩ | ⟨g, cap, cur, hv, hb, hg, hle, hcap, hsz, htake⟩
  · exact .inl ⟨hv, List.eq_nil_of_length_eq_zero hn⟩
  · refine .inr ⟨g, cap, hv, hb, ?_, hle, fun j x hx => ?_⟩
    · exact (Array.getElem?_eq_some_iff.1 hg).1
    · have := World.ownsRow.cells h (g := g) (by rw [hv]; rfl) j x hx
      rw [show (⟨g, 0, none⟩ : Addr).add j = ⟨g, 0 + j, none⟩ from by unfold Addr.add; split <;> simp_all] at this
      exact this
theorem ownV_snoc {w : World} {base e : Nat} {v : Value} {xs : List Value} {z : Value} {n : Nat} (h : w.ownsRow base e 1 v (n + 1) (xs ++ (#[z] : Array Value).toList)) (hn : n = xs.length) : OwnV w base e v (xs ++ [z]) := by
  subst hn
  unfold OwnV
  simpa using h
/-- 'append(s, x)' to a row of the call's own. -/
theorem wpList_append_val {P : Program} {w : World} {ops : Array Oper} {rest : List Oper} {o : Oper} {a : Act} {Q : Exit → Act → World → Prop} (hgd : o.guard = none) (s x : Operand) (t e : TypeId)
    (ho : o.op = .call { callee := .builtin .append, args := #[s, x], argTypes := #[t, t] }) (z0 : Value) (bytes : Nat) (he : ElemOK P t e z0 1 bytes) (hz0 : z0.cells.size = 1) (hby : bytes ≤ 1000)
    (base : Nat) (v : Value) (xs : List Value) (hs : a.eval s = v) (hown : OwnV w base e v xs)
    (g : Nat) (z : Value) (T : TypeId) (hx : a.eval x = .slice (some ⟨g, 0, none⟩) 1 1) (hb : Blk w g #[z] T) (hz : z.oneCell' = true) (hn : xs.length ≤ 100000000000) (hbase : base ≤ w.heap.size)
    (h : ∀ v' w', OwnV w' base e v' (xs ++ [z]) → w.grownBy w' v.ownBlock → wpList P ops Q rest (a.put o.dst v') w') : wpList P ops Q (o :: rest) a w :=
  wpList_append1 hgd s x t e ho z0 1 bytes he hz0 (by decide) hby base v xs.length _ hs hown g #[z] T hx hb rfl (by intro u hu; simp at hu; subst hu; exact hz) hn hbase
    fun v' w' h1 h2 => h v' w' (ownV_snoc h1 rfl) h2
end Go.Proofs.YtlhfpnkfapghoaaDoor
end

section
/- A witness as it is told (axiom.Witness). No condition but each theorem's own. -/
set_option linter.unusedVariables false
set_option linter.unusedSimpArgs false
namespace Go.Proofs.YtlhfpnkfapghoaaDoor
open Go.RowKit Go.Maps
attribute [local go_sem ↓] zero_rel

/-- 'append(s, l...)': a list that came in behind a row of the call's own. -/
theorem wpList_append_in {P : Program} {w : World} {ops : Array Oper} {rest : List Oper} {o : Oper} {a : Act} {Q : Exit → Act → World → Prop} (hgd : o.guard = none) (s x : Operand) (t e : TypeId)
    (ho : o.op = .call { callee := .builtin .append, args := #[s, x], argTypes := #[t, t] }) (he : ElemOK P t e (.int .i64 0) 1 8)
    (base : Nat) (v : Value) (xs : List Int) (hs : a.eval s = v) (hown : Own w base e v xs)
    (u : Value) (ys : List Int) (hx : a.eval x = u) (hsrc : Ints w u ys) (hn : xs.length ≤ 10000000000) (hm : ys.length ≤ 10000000000) (hbase : base ≤ w.heap.size)
    (h : ∀ v' w', Own w' base e v' (xs ++ ys) → w.grownBy w' v.ownBlock → wpList P ops Q rest (a.put o.dst v') w') : wpList P ops Q (o :: rest) a w := by
  obtain ⟨i, hi, hz0, hz1, hz2⟩ := he.get
  obtain ⟨A, c, rfl, hl, hcell⟩ := hsrc
  by_cases h0 : ys = []
  · subst h0
    have hq : ∀ A, a.eval x = .slice A 0 c → wpList P ops Q (o :: rest) a w := fun A hA => by
      refine wpList_plain hgd fun K hK => ?_
      have hrun : (Builtin.append_ #[t, t] o.type #[v, .slice A 0 c]).run P w = .ok v w := by
        rcases hown.2 with ⟨rfl, hz⟩ | ⟨g, cap, cur, rfl, _, _, hnc, _⟩
        · cases A <;> simp [Builtin.append_, run_underlying he.under, sizeOf, typeInfo, hi, Builtin.lenOf, Builtin.firstCells, loadCells, loadCellsFrom]
        · cases A <;> simp [Builtin.append_, run_underlying he.under, sizeOf, typeInfo, hi, Builtin.lenOf, Builtin.firstCells, hnc, storeCells, loadCells, loadCellsFrom]
      unfold Oper.wp
      simp [execOp, ho, resolve, invoke, builtin, hs, hA, hrun, Result.andThen]
      exact hK _ _ (h v w (by simpa using hown) ⟨rfl, rfl, rfl, Nat.le_refl _, fun _ _ _ => rfl⟩)
    exact hq A hx
  · have hpos : 0 < ys.length := List.length_pos_iff.2 h0
    obtain ⟨ad, rfl, hc⟩ := hcell hpos
    refine wpList_append_own w hgd s x t ho base e i (.int .i64 0) 1 8 he.under hi hz0 hz1 hz2 rfl (by decide) v xs.length _ hs hown ad ys.length c (ys.map (.int .i64)) hx (by simp) ?_ ?_ (by unfold maxLen; omega) ?_ hbase (fun v' w' h1 h2 _ => h v' w' ?_ h2)
    · intro j y hj
      rw [List.getElem?_map] at hj
      obtain ⟨z, hz, rfl⟩ := Option.map_eq_some_iff.1 hj
      have hjl := (List.getElem?_eq_some_iff.1 hz).1
      have := hc j hjl
      rw [List.getD_eq_getElem?_getD, hz] at this
      exact this
    · intro z hz
      obtain ⟨y, _, rfl⟩ := List.mem_map.1 hz
      rfl
    · omega
    · unfold Own OwnK
      rw [List.length_append, List.map_append]
      exact h1
/-- A row of the call's own that holds lists, each in a row of its own. -/
structure OwnL (w : World) (base : Nat) (v : Value) (Us : List Value) (ls : List (List Int)) : Prop where
  row : OwnV w base 35 v Us
  len : Us.length = ls.length
  el : ∀ j, j < ls.length → ∃ b, Own w b 3 (Us.getD j undef) (ls.getD j [])
theorem OwnL.keep {w w' : World} {base : Nat} {v : Value} {Us : List Value} {ls : List (List Int)} (h : OwnL w base v Us ls) (hc : Ch nob w w') : OwnL w' base v Us ls :=
  ⟨h.row.keep hc, h.len, fun j hj => by obtain ⟨b, hb⟩ := h.el j hj; exact ⟨b, hb.keep hc⟩⟩
theorem OwnL.off {w w' : World} {base g : Nat} {v : Value} {Us : List Value} {ls : List (List Int)} {C : Array Value} {T : TypeId} (h : OwnL w base v Us ls) (hc : Ch (· = g) w w') (hb : Blk w g C T) (h1 : 35 ≠ T) (h2 : 3 ≠ T) : OwnL w' base v Us ls :=
  ⟨h.row.other hc (h.row.ne hb h1), h.len, fun j hj => by obtain ⟨b, q⟩ := h.el j hj; exact ⟨b, q.other hc (q.ne hb h2)⟩⟩
theorem OwnL.lls {w : World} {base : Nat} {v : Value} {Us : List Value} {ls : List (List Int)} (h : OwnL w base v Us ls) (hl : ls.length ≤ 1000000) : LLs w v ls := by
  rcases h.row.read with ⟨hv, hn⟩ | ⟨g, c, hv, _, _, hle, hx⟩
  · have : ls = [] := List.eq_nil_of_length_eq_zero (by rw [← h.len, hn]; rfl)
    subst this
    rw [hv]; exact LLs.nil w
  · refine ⟨some ⟨g, 0, none⟩, c, by rw [hv, h.len], ⟨by rw [← h.len]; exact hle, by omega⟩, fun i hi => ?_⟩
    obtain ⟨b, hb⟩ := h.el i hi
    have hi2 : i < Us.length := by rw [h.len]; exact hi
    refine ⟨⟨g, 0, none⟩, Us.getD i undef, rfl, ?_, hb.ints⟩
    have := hx i _ (List.getElem?_eq_getElem hi2)
    rw [show (⟨g, 0, none⟩ : Addr).add i = ⟨g, 0 + i, none⟩ from by unfold Addr.add; split <;> simp_all, List.getD_eq_getElem?_getD, List.getElem?_eq_getElem hi2]
    exact this
/-- What one is told to see. -/
def seesL (V : Nat → Nat) (n : Nat) : List (List Int) := (List.range n).map fun i => listS (turnTo V 64 i)
theorem seesL_succ (V : Nat → Nat) (n : Nat) : seesL V (n + 1) = seesL V n ++ [listS (turnTo V 64 n)] := by unfold seesL; rw [List.range_succ, List.map_append]; rfl
theorem seesL_len (V : Nat → Nat) (n : Nat) : (seesL V n).length = n := by unfold seesL; rw [List.length_map, List.length_range]
theorem seesL_at (V : Nat → Nat) (n i : Nat) (hi : i < n) : (seesL V n).getD i [] = listS (turnTo V 64 i) := by
  unfold seesL
  rw [List.getD_eq_getElem?_getD, List.getElem?_map, List.getElem?_range hi]; rfl
/-- One more list behind the others: each operation's value. -/
def rWit (B g5 g6 i : Nat) (v0 : Value) (Us : List Value) (t : Nat → Nat) (L : Nat → Bool) (k : Nat) (u : Value) (w : World) : Prop :=
  match k with
  | 0 => u = .pointer (some ⟨g5, 1, none⟩)
  | 1 => u = v0
  | 2 => u = .int .i64 i
  | 3 => u = .pointer (some ⟨g6, i, none⟩)
  | 4 => u = .int .u64 (t i : Nat)
  | 5 => ∃ b, Own w b 3 u (listS (t i))
  | 6 => L 7 = false → ∃ g y, u = .slice (some ⟨g, 0, none⟩) 1 1 ∧ Blk w g #[y] 35 ∧ y.oneCell' = true ∧ ∃ b, Own w b 3 y (listS (t i))
  | 7 => ∃ y, OwnV w B 35 u (Us ++ [y]) ∧ ∃ b, Own w b 3 y (listS (t i))
  | 8 => u = .pointer (some ⟨g5, 1, none⟩)
  | _ => True
theorem rWit_keep {B g5 g6 i : Nat} {v0 : Value} {Us : List Value} {t : Nat → Nat} {L L2 : Nat → Bool} {k : Nat} {u : Value} {w w' : World} (h : rWit B g5 g6 i v0 Us t L k u w) (ho : ∀ v b xs, Own w b 3 v xs → Own w' b 3 v xs)
    (hb : k = 6 → L2 7 = false → L 7 = false ∧ ∀ g y, Blk w g #[y] 35 → Blk w' g #[y] 35) (hv : k = 7 → ∀ v xs, OwnV w B 35 v xs → OwnV w' B 35 v xs) : rWit B g5 g6 i v0 Us t L2 k u w' := by
  unfold rWit at h ⊢
  split
  all_goals first | exact h | exact trivial | skip
  · obtain ⟨b, h1⟩ := h
    exact ⟨b, ho _ _ _ h1⟩
  · intro h7
    obtain ⟨h8, h9⟩ := hb rfl h7
    obtain ⟨g, y, h1, h2, h3, b, h4⟩ := h h8
    exact ⟨g, y, h1, h9 _ _ h2, h3, b, ho _ _ _ h4⟩
  · obtain ⟨y, h1, b, h2⟩ := h
    exact ⟨y, hv rfl _ _ h1, b, ho _ _ _ h2⟩
/-- What holds of the world on the way. -/
structure iWit (w : World) (B g4 g5 g6 : Nat) (ov v0 : Value) (row : List Int) (Us : List Value) (ls : List (List Int)) (z : List Int) (t : Nat → Nat) (L : Nat → Bool) (u : World) : Prop where
  ch : Ch nob w u
  own : Own u B 3 ov row
  el : ∀ j, j < ls.length → ∃ b, Own u b 3 (Us.getD j undef) (ls.getD j [])
  rst : Blk u g4 #[.slice none 0 0, .slice none 0 0] 85
  tur : Blk u g6 (relArr t) 40
  old : L 7 = false → OwnV u B 35 v0 Us
  cell : L 9 = false → Blk u g5 #[ov, v0] 85
  done : L 9 = true → ∃ v y, Blk u g5 #[ov, v] 85 ∧ OwnV u B 35 v (Us ++ [y]) ∧ ∃ b, Own u b 3 y z
theorem iWit.chd {w : World} {B g4 g5 g6 : Nat} {ov v0 : Value} {row : List Int} {Us : List Value} {ls : List (List Int)} {z : List Int} {t : Nat → Nat} {L : Nat → Bool} {u u' : World} (h : iWit w B g4 g5 g6 ov v0 row Us ls z t L u) (hc : Ch nob u u') {k : Nat} (h7 : k ≠ 7) (h9 : k ≠ 9) : iWit w B g4 g5 g6 ov v0 row Us ls z t (mark L k) u' :=
  ⟨h.ch.seq hc, h.own.keep hc, fun j hj => (h.el j hj).imp fun b hb => hb.keep hc, h.rst.ch hc (fun h => h), h.tur.ch hc (fun h => h), fun e => (h.old (by rw [mark_ne h7.symm] at e; exact e)).keep hc, fun e => (h.cell (by rw [mark_ne h9.symm] at e; exact e)).ch hc (fun h => h),
    fun e => by
      obtain ⟨v, y, h1, h2, b, h3⟩ := h.done (by rw [mark_ne h9.symm] at e; exact e)
      exact ⟨v, y, h1.ch hc (fun h => h), h2.keep hc, b, h3.keep hc⟩⟩
theorem yld_skip {P : Program} {ops : Array Oper} {o : Oper} {a : Act} {w w' : World} {K : Act → World → Prop} {Q : Exit → Act → World → Prop} (hw : Region.wanted o (yielded ops a.tmps) = true) (hrun : (execOp a.eval o).run P w = .ok .skip w') (h : K (a.put o.dst undef) w') : wpList P ops (Exit.then K Q) [o] a w :=
  wpList_step fun K' hK' => by
    rw [if_pos hw]
    unfold Oper.wp
    rw [hrun]
    exact hK' _ _ h
def RetWit (w : World) (row : List Int) (ls : List (List Int)) (e : Ending) (w' : World) : Prop :=
  ∃ ov sv, e = .returned (.agg #[ov, sv]) ∧ Ints w' ov row ∧ LLs w' sv ls ∧ Ch nob w w'
set_option maxRecDepth 100000 in
set_option maxHeartbeats 8000000 in
theorem witness_axiom (w : World) (rv : Value) (row : List Int) (V : Nat → Nat) (hr : Ints w rv row) (hlen : row.length ≤ 64) (okV : RelOK V) (hT : Tab w) :
    Calls Tryd.prog 65 #[rv, .agg (relArr V)] w (RetWit w row (seesL V row.length)) := by
  have HTT := Lib.hid (fun (u : World) (hc : Ch nob w u) => hT.keep hc)
  have HR := Lib.hid (fun (u : World) (hc : Ch nob w u) => hr.keep hc)
  have HTU := Lib.hid (fun (u : World) (hc : Ch nob w u) => turned_rel V okV u (hT.keep hc))
  have okt := turnTo_ok V 64
  obtain ⟨RA, rc, rfl⟩ := hr.shape
  have hrl := hr.at.2.1
  obtain ⟨h3, h4, hc4, hs4⟩ := two_new w (relArr V) #[.slice none 0 0, .slice none 0 0] 40 85
  have HLN := Lib.hid hlen
  clear hr hlen hT
  go_enter Tryd.func65, Tryd.ntmps65
  go_wp2_with (at_builtin; refine wpList_append_in rfl (.const (.slice none 0 0)) (.tmp 8) 35 3 rfl elem_int w.heap.size _ [] rfl (OwnK.nil _ _ _ _) _ row rfl (HR.out _ hc4) (by simp) (by have := HLN.out; omega) (by rw [hs4]; omega) ?_; intro ov w5 hov0 hgr; have hov : Own w5 w.heap.size 3 ov row := hov0; obtain ⟨OA, oc, rfl⟩ := hov.ints.shape; have hcg := ch_of_grown_none hgr; have h35 := h3.ch hcg (fun h => h); have h45 := h4.ch hcg (fun h => h); have hc5 := hc4.seq hcg; have h36 := h35.alloc (.cells #[.slice OA row.length oc, .slice none 0 0] 85); have h46 := h45.alloc (.cells #[.slice OA row.length oc, .slice none 0 0] 85); have h56 := Blk.new w5 #[.slice OA row.length oc, .slice none 0 0] 85; have hc6 := hc5.alloc (.cells #[.slice OA row.length oc, .slice none 0 0] 85); have hov6 := hov.alloc (.cells #[.slice OA row.length oc, .slice none 0 0] 85); have hl4 := h45.lt; clear h3 h4 hc4 hcg hgr hov0 h35 h45 hc5 hov; go_wp2_with (refine wpList_load_row rfl 40 (.tmp 3) rfl w.heap.size rfl 40 (relArr V) (0, 0) _ h36 rfl rfl (by rw [relArr_size]; kernel_rfl) ?_))
  generalize w5.alloc _ = w6 at h36 h46 h56 hc6 hov6 ⊢
  obtain ⟨g5, hg5⟩ : ∃ g, w5.heap.size = g := ⟨_, rfl⟩
  obtain ⟨g4, hg4⟩ : ∃ g, w.heap.size + 1 = g := ⟨_, rfl⟩
  rw [hg5] at h56 hl4 ⊢
  rw [hg4] at h46 hl4 ⊢
  refine (HTU.out w6 hc6).mono ?_
  rintro e w7 ⟨rfl, hcA⟩
  have h47 := h46.ch hcA (fun h => h)
  have h57 := h56.ch hcA (fun h => h)
  have hc7 := hc6.seq hcA
  have hov7 := hov6.keep hcA
  obtain ⟨t, ht⟩ : ∃ t, turnTo V 64 = t := ⟨_, rfl⟩
  have HT := Lib.hid ht
  rw [ht] at okt ⊢
  have hn6 := Blk.new w7 (relArr fun _ => 0) 40
  obtain ⟨h6, hcB⟩ := new_row w7 (relArr fun _ => 0) (relArr t) 40
  have h48 := h47.ch hcB (fun h => h)
  have h58 := h57.ch hcB (fun h => h)
  have hc8 := hc7.seq hcB
  have hov8 := hov7.keep hcB
  clear h36 h46 h56 hc6 hov6 hcA hcB ht HTU h47 h57 hc7 hov7
  go_wp2_with (refine wpList_store_row rfl 40 (.tmp 6) (.tmp 12) rfl w7.heap.size (relArr t) rfl rfl 40 _ hn6 (by rw [relArr_size]; kernel_rfl) (by rw [relArr_size, relArr_size]) (relArr_cells _) ?_)
  generalize (w7.alloc _).setRow _ _ = w8 at h6 h48 h58 hc8 hov8 ⊢
  obtain ⟨g6, hg6⟩ : ∃ g, w7.heap.size = g := ⟨_, rfl⟩
  rw [hg6] at h6 ⊢
  have HG := Lib.hid (show w.heap.size ≤ g5 ∧ g4 ≠ g5 ∧ w.heap.size ≤ g4 by omega)
  clear hg6 hn6 hg5 hg4 hl4
  have hl0 : OwnL w8 w.heap.size (.slice none 0 0) [] (seesL V 0) := ⟨OwnV.nil _ _ _, rfl, fun j hj => by simp [seesL] at hj⟩
  obtain ⟨n, hn⟩ : ∃ n, row.length = n := ⟨_, rfl⟩
  have hn64 : n ≤ 64 := by rw [← hn]; exact HLN.out
  rw [hn] at hrl
  rw [hn] at h58 hov8 ⊢
  have HNN := Lib.hid hn
  clear hn
  obtain ⟨ov, hov⟩ : ∃ o, Value.slice OA n oc = o := ⟨_, rfl⟩
  rw [hov] at h58 hov8 ⊢
  clear hov
  go_loopw [15] (fun q wr => ∃ (i : Nat) (v0 : Value) (Us : List Value), q = .int .i64 i ∧ i ≤ n ∧ OwnL wr w.heap.size v0 Us (seesL V i) ∧ Own wr w.heap.size 3 ov row ∧ Blk wr g4 #[.slice none 0 0, .slice none 0 0] 85 ∧ Blk wr g5 #[ov, v0] 85 ∧ Blk wr g6 (relArr t) 40 ∧ Ch nob w wr) (fun q _ => n - (intOf q).toNat)
  case atStart => exact ⟨0, _, [], rfl, by omega, hl0, hov8, h48, h58, h6, hc8⟩
  case round =>
    clear hl0 hov8 h48 h58 h6 hc8
    obtain ⟨i, v0, Us, rfl, hi, hl, hov, h4, h5, h6, hc⟩ := hrel
    by_cases hlt : i < n
    · have hd : decide ((i : Int) < (n : Int)) = true := decide_eq_true (by omega)
      have hone0 : v0 = .slice none 0 0 ∨ ∃ A m c, v0 = .slice A m c := by
        rcases hl.row.read with ⟨h, _⟩ | ⟨g, c, h, _⟩
        · exact .inl h
        · exact .inr ⟨_, _, _, h⟩
      have hUL : Us.length ≤ 64 := by rw [hl.len, seesL_len]; omega
      have HTI := Lib.hid (show listS (turnTo V 64 i) = listS (t i) from by rw [HT.out])
      have hi64 : i < 64 := by omega
      have hi64' : (i : Int) < 64 := by omega
      have hi0' : (0 : Int) ≤ (i : Int) := by omega
      have oki := okt i
      have hB : w.heap.size ≤ wr.heap.size := hc.size
      have hst : iWit w w.heap.size g4 g5 g6 ov v0 row Us (seesL V i) (listS (t i)) t (fun _ => false) wr := ⟨hc, hov, hl.el, h4, h6, fun _ => hl.row, fun _ => h5, fun e => by cases e⟩
      obtain ⟨sl, hsl⟩ : ∃ s, seesL V i = s := ⟨_, rfl⟩
      have HSL := Lib.hid hsl
      rw [hsl] at hst
      have hlen := hl.len
      clear hsl hl hov h4 h5 h6
      go_wp2_with fail
      refine wp_region_led2 (rWit w.heap.size g5 g6 i v0 Us t) (iWit w w.heap.size g4 g5 g6 ov v0 row Us sl (listS (t i)) t) (by kernel_rfl) (by kernel_rfl) (by rfl) (by kernel_rfl) ?_ ?_ ?_
      · exact ⟨hst.ch.drew, hst.own, hst.el, hst.rst, hst.tur, hst.old, hst.cell, hst.done⟩
      · intro k o hk2 L ac wq hI hk K hK
        have ht5 : ac.tmps[5]? = some (.pointer (some ⟨g5, 0, none⟩)) := (hk.old 5 (by decide +kernel)).trans rfl
        have ht6 : ac.tmps[6]? = some (.pointer (some ⟨g6, 0, none⟩)) := (hk.old 6 (by decide +kernel)).trans rfl
        have ht7 : ac.tmps[7]? = some (.int .i64 i) := (hk.old 7 (by decide +kernel)).trans rfl
        have Keep : ∀ v w', Ch nob wq w' → k ≠ 7 → k ≠ 9 → rWit w.heap.size g5 g6 i v0 Us t (mark L k) k v w' → K (ac.put o.dst v) w' := fun v w' hc h7 h9 hr => hK v w' (hI.chd hc h7 h9) hr (fun j u p s _ _ _ _ _ h => rWit_keep h (fun _ _ _ q => q.keep hc) (fun _ e => ⟨by rw [mark_ne h7.symm] at e; exact e, fun _ _ q => q.ch hc (fun h => h)⟩) (fun _ _ _ q => q.keep hc))
        have hk10 : k < 10 := (List.getElem?_eq_some_iff.1 hk2).1
        have hkk : k = 0 ∨ k = 1 ∨ k = 2 ∨ k = 3 ∨ k = 4 ∨ k = 5 ∨ k = 6 ∨ k = 7 ∨ k = 8 ∨ k = 9 := by omega
        rcases hkk with rfl | rfl | rfl | rfl | rfl | rfl | rfl | rfl | rfl | rfl
        · cases hk2
          exact yld_one (v := .pointer (some ⟨g5, 1, none⟩)) (w' := wq) rfl (by go_simp) (Keep _ _ (Ch.refl _ _) (by decide) (by decide) rfl)
        · cases hk2
          obtain ⟨u0, h0, k0⟩ := hk.val ⟨0, .data⟩ (by simp) rfl _ 18 rfl rfl
          rw [show u0 = .pointer (some ⟨g5, 1, none⟩) from k0] at h0
          have hL9 : L 9 = false := by
            cases h : L 9 with
            | false => rfl
            | true =>
              have h7 := hk.led 9 _ rfl h ⟨7, .data⟩ (by simp) rfl
              have := hk.led 7 _ rfl h7 ⟨1, .data⟩ (by simp) rfl
              rw [hk.new] at this; cases this
          have hx := (hI.cell hL9).cell (i := 1) (v := v0) rfl
          exact yld_one (v := v0) (w' := wq) rfl (by go_simp) (Keep _ _ (Ch.refl _ _) (by decide) (by decide) rfl)
        · cases hk2
          exact yld_one (v := .int .i64 i) (w' := wq) rfl (by go_simp) (Keep _ _ (Ch.refl _ _) (by decide) (by decide) rfl)
        · cases hk2
          obtain ⟨u0, h0, k0⟩ := hk.val ⟨2, .data⟩ (by simp) rfl _ 20 rfl rfl
          rw [show u0 = .int .i64 i from k0] at h0
          exact yld_one (v := .pointer (some ⟨g6, i, none⟩)) (w' := wq) rfl (by go_simp) (Keep _ _ (Ch.refl _ _) (by decide) (by decide) rfl)
        · cases hk2
          obtain ⟨u0, h0, k0⟩ := hk.val ⟨3, .data⟩ (by simp) rfl _ 21 rfl rfl
          rw [show u0 = .pointer (some ⟨g6, i, none⟩) from k0] at h0
          have hx := hI.tur.relAt i hi64
          exact yld_one (v := .int .u64 (t i : Nat)) (w' := wq) rfl (by go_simp) (Keep _ _ (Ch.refl _ _) (by decide) (by decide) rfl)
        · cases hk2
          obtain ⟨u0, h0, k0⟩ := hk.val ⟨4, .data⟩ (by simp) rfl _ 22 rfl rfl
          rw [show u0 = .int .u64 (t i : Nat) from k0] at h0
          have e0 := yld_slot h0
          refine yld_call (f := 111) (vs := #[.int .u64 (t i : Nat)]) rfl (by simp only [execOp, Sem.run_bind, Sem.run_pure, Result.andThen_ok, resolve, List.map_toArray, List.map_cons, List.map_nil, e0]; rfl) ?_
          refine (list_set (t i) wq oki (HTT.out wq hI.ch)).mono ?_
          rintro e w' ⟨v, rfl, hov, hc⟩
          exact ⟨_, rfl, Keep _ _ hc (by decide) (by decide) ⟨_, hov⟩⟩
        · cases hk2
          obtain ⟨u0, h0, b, k0⟩ := hk.val ⟨5, .data⟩ (by simp) rfl _ 23 rfl rfl
          obtain ⟨YA, yc, rfl⟩ := k0.ints.shape
          exact yld_one (v := .slice (some ⟨wq.heap.size, 0, none⟩) 1 1) (w' := wq.alloc (.cells #[.slice YA (listS (t i)).length yc] 35)) rfl (by go_simp) (Keep _ _ ((Ch.refl _ _).alloc _) (by decide) (by decide) (fun _ => ⟨_, _, rfl, Blk.new _ _ _, rfl, b, k0.alloc _⟩))
        · cases hk2
          obtain ⟨u0, h0, k0⟩ := hk.val ⟨1, .data⟩ (by simp) rfl _ 19 rfl rfl
          rw [show u0 = v0 from k0] at h0
          obtain ⟨u1, h1, k1⟩ := hk.val ⟨6, .data⟩ (by simp) rfl _ 24 rfl rfl
          obtain ⟨g, y, rfl, hb, hone, b, hy⟩ := k1 hk.new
          have hL9 : L 9 = false := by
            cases h : L 9 with
            | false => rfl
            | true =>
              have h7 := hk.led 9 _ rfl h ⟨7, .data⟩ (by simp) rfl
              rw [hk.new] at h7; cases h7
          have hold := hI.old hk.new
          refine wpList_append_val rfl (.tmp 19) (.tmp 24) 83 35 rfl (.slice none 0 0) 24 elem_ints rfl (by decide) w.heap.size v0 Us (yld_slot h0) hold g y 35 (yld_slot h1) hb hone (by omega) hI.ch.size ?_
          intro v' w' ho' hg'
          have hO : ∀ v b xs, Own wq b 3 v xs → Own w' b 3 v xs := fun v b xs q => q.grown hg' (fun b1 hb1 e => row_row_ne q hold (by decide) b1 hb1 e)
          refine hK v' w' ⟨hI.ch.grown_own hg' (fun b hb => (hold.ge b hb).1), hO _ _ _ hI.own, fun j hj => (hI.el j hj).imp fun b q => hO _ _ _ q, hI.rst.grown hg' (fun e => hold.ne hI.rst (by decide) e), hI.tur.grown hg' (fun e => hold.ne hI.tur (by decide) e), fun e => (by rw [mark_same] at e; cases e), fun _ => (hI.cell hL9).grown hg' (fun e => hold.ne (hI.cell hL9) (by decide) e), fun e => (by rw [mark_ne (by decide), hL9] at e; cases e)⟩ ⟨y, ho', b, hO _ _ _ hy⟩ (fun j u p s hj _ _ _ _ h => rWit_keep h hO (fun _ e => (by rw [mark_same] at e; cases e)) (fun e => absurd e hj))
        · cases hk2
          exact yld_one (v := .pointer (some ⟨g5, 1, none⟩)) (w' := wq) rfl (by go_simp) (Keep _ _ (Ch.refl _ _) (by decide) (by decide) rfl)
        · cases hk2
          obtain ⟨u0, h0, k0⟩ := hk.val ⟨7, .data⟩ (by simp) rfl _ 25 rfl rfl
          obtain ⟨u1, h1, k1⟩ := hk.val ⟨8, .data⟩ (by simp) rfl _ 26 rfl rfl
          rw [show u1 = .pointer (some ⟨g5, 1, none⟩) from k1] at h1
          obtain ⟨y, hrow, b, hy⟩ := k0
          have hL7 : L 7 = true := hk.wait ⟨7, .data⟩ (by simp) rfl
          have hcl := hI.cell hk.new
          have hx := hcl.cell (i := 1) (v := v0) rfl
          have hf := hcl.free 1
          have hc5 : Ch (· = g5) wq (wq.setCell ⟨g5, 1, none⟩ u0) := (Ch.refl _ _).setCell _ _ (fun _ => rfl)
          have hO : ∀ v b xs, Own wq b 3 v xs → Own (wq.setCell ⟨g5, 1, none⟩ u0) b 3 v xs := fun v b xs q => q.other hc5 (q.ne hcl (by decide))
          have hV : ∀ v xs, OwnV wq w.heap.size 35 v xs → OwnV (wq.setCell ⟨g5, 1, none⟩ u0) w.heap.size 35 v xs := fun v xs q => q.other hc5 (q.ne hcl (by decide))
          have hsh : u0 = .slice none 0 0 ∨ ∃ A m c, u0 = .slice A m c := by
            rcases hrow.read with ⟨h, _⟩ | ⟨g, c, h, _⟩
            · exact .inl h
            · exact .inr ⟨_, _, _, h⟩
          refine yld_skip (w' := wq.setCell ⟨g5, 1, none⟩ u0) rfl (by rcases hsh with e | ⟨A, m, c, e⟩ <;> subst e <;> go_simp) ?_
          refine hK undef _ ⟨hI.ch.fresh hc5 HG.out.1, hO _ _ _ hI.own, fun j hj => (hI.el j hj).imp fun b q => hO _ _ _ q, hI.rst.ch hc5 HG.out.2.1, hI.tur.ch hc5 (fun e => ?_), fun e => (by rw [mark_ne (by decide), hL7] at e; cases e), fun e => (by rw [mark_same] at e; cases e), fun _ => ⟨u0, y, hcl.set 1 u0, hV _ _ hrow, b, hO _ _ _ hy⟩⟩ trivial (fun j u p s hj _ _ _ _ h => rWit_keep h hO (fun _ e => by rw [mark_ne (by decide), hL7] at e; cases e) (fun _ => hV))
          have e1 : g6 = g5 := e
          have h1 : wq.heap[g6]? = some (.cells (relArr t) 40 (0, 0)) := hI.tur
          rw [e1, show wq.heap[g5]? = some (.cells #[ov, v0] 85 (0, 0)) from hcl] at h1
          simp at h1
      · intro L vals w9 hL hI hvl
        obtain ⟨v9, y, hcl, hrow, b, hy⟩ := hI.done (hL 9 (by decide))
        have hnew : OwnL w9 w.heap.size v9 (Us ++ [y]) (sl ++ [listS (t i)]) := ⟨hrow, by rw [List.length_append, List.length_append, hlen, HSL.out]; rfl, fun j hj => by
          rw [List.length_append] at hj
          by_cases e : j < sl.length
          · obtain ⟨b2, q⟩ := hI.el j e
            refine ⟨b2, ?_⟩
            rw [List.getD_eq_getElem?_getD, List.getElem?_append_left (by rw [hlen, HSL.out]; exact e), ← List.getD_eq_getElem?_getD, List.getD_eq_getElem?_getD (l := sl ++ _), List.getElem?_append_left e, ← List.getD_eq_getElem?_getD]
            exact q
          · have e2 : j = sl.length := by simp at hj; omega
            subst e2
            refine ⟨b, ?_⟩
            have hls : Us.length = sl.length := by rw [hlen, HSL.out]
            rw [List.getD_eq_getElem?_getD, List.getElem?_append_right (by omega), hls, List.getD_eq_getElem?_getD (l := sl ++ _), List.getElem?_append_right (by omega)]
            simpa using hy⟩
        have hee : sl ++ [listS (t i)] = seesL V (i + 1) := by rw [seesL_succ, HSL.out, HTI.out]
        rw [hee] at hnew
        have hcc := hI.ch
        have hoo := hI.own
        have hrr := hI.rst
        have htt := hI.tur
        clear hI hst hL hvl
        simp only [putAll, Act.put, List.setIfInBounds_toArray, List.set_cons_succ, List.set_cons_zero]
        go_wp2_with fail
        go_roundw
        case rel => exact ⟨i + 1, v9, _, by go_num, by omega, hnew, hoo, hrr, hcl, htt, hcc⟩
        case measure => simp [intOf]; omega
    · obtain rfl : i = n := by omega
      have hd : decide ((i : Int) < (i : Int)) = false := by simp
      have hlls := hl.lls (by rw [seesL_len]; omega)
      obtain ⟨OA2, oc2, rfl⟩ := hov.ints.shape
      obtain ⟨SA, sc, rfl⟩ := hlls.shape
      obtain ⟨vA, hvA⟩ : ∃ v, Value.slice OA2 row.length oc2 = v := ⟨_, rfl⟩
      have h4a := h4.set 0 (.slice OA2 row.length oc2)
      have h4b := h4a.set 1 (.slice SA (seesL V i).length sc)
      have hx0 := h4.cell (i := 0) (v := .slice none 0 0) rfl
      have hf0 := h4.free 0
      have hx1 := h4a.cell (i := 1) (v := .slice none 0 0) rfl
      have hf1 := h4a.free 1
      have hcg : Ch (· = g4) wr ((wr.setCell ⟨g4, 0, none⟩ (.slice OA2 row.length oc2)).setCell ⟨g4, 1, none⟩ (.slice SA (seesL V i).length sc)) := ((Ch.refl (· = g4) wr).setCell ⟨g4, 0, none⟩ _ (fun _ => rfl)).setCell ⟨g4, 1, none⟩ _ (fun _ => rfl)
      have hc9 := hc.fresh hcg HG.out.2.2
      have hA9 := (hov.other hcg (hov.ne h4 (by decide))).ints
      have hL9 := (hl.off hcg h4 (by decide) (by decide)).lls (by rw [seesL_len]; omega)
      have hrn := HNN.out
      subst hrn
      clear hvA hlls hov hl hc hcg
      have hz0 := h5.cell (i := 0) (v := .slice OA2 row.length oc2) rfl
      have hz1 := h5.cell (i := 1) (v := .slice SA (seesL V row.length).length sc) rfl
      clear h4 h4a h5 h6
      go_wp2_with fail
      exact bodyPost_ret (v := .agg #[.slice OA2 row.length oc2, .slice SA (seesL V row.length).length sc]) (results_cell_row rfl _ _ g4 85 #[.slice OA2 row.length oc2, .slice SA (seesL V row.length).length sc] (0, 0) _ rfl h4b rfl rfl (by kernel_rfl)) rfl ⟨_, _, rfl, hA9, hL9, hc9⟩
end Go.Proofs.YtlhfpnkfapghoaaDoor
end
