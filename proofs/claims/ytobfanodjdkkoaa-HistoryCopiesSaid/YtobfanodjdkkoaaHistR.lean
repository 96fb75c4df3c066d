/- Who writes what of a history, and how often, by the document. No condition but each theorem's own. -/
import Derived.Test.YtobfanodjdkkoaaHistC
set_option linter.unusedVariables false
set_option linter.unusedSimpArgs false
namespace Go.Proofs.Ytobfanodjdkkoaa
open Go.RowKit Go.Maps

/-- The value of the first one of a key; 0: none. -/
def firstVal : List Opn → Int → Int
  | [], _ => 0
  | x :: l, k => if x.key = k then x.val else firstVal l k
theorem drop_at {ys : List Opn} {i : Nat} (hi : i < ys.length) {x : Opn} (hx : ys.getD i opZero = x) : ys.drop i = x :: ys.drop (i + 1) := by
  rw [List.getD_eq_getElem?_getD, List.getElem?_eq_getElem hi, Option.getD_some] at hx
  rw [← hx]
  exact List.drop_eq_getElem_cons hi
def valR (xs : List Opn) (k : Int) : Int := firstVal (writesR xs 64) k
set_option maxRecDepth 100000 in
set_option maxHeartbeats 1000000 in
theorem value_ref05 (w : World) (v : Value) (xs : List Opn) (k : Int) (hv : Opl w v xs) (hn : xs.length ≤ 10000) : Calls Try.prog 48 #[v, .int .i64 k] w fun e w' => e = .returned (.int .i64 (valR xs k)) ∧ Ch nob w w' := by
  have HV := Lib.hid (writes_ref05 w v xs hv hn)
  have HR := Lib.hid (show valR xs k = firstVal (writesR xs 64) k from rfl)
  obtain ⟨ys, hys⟩ : ∃ ys, writesR xs 64 = ys := ⟨_, rfl⟩
  rw [hys] at HV HR
  clear hv hn hys
  go_enter Try.func48, Try.ntmps48
  go_wp2_with fail
  refine HV.out.mono ?_
  rintro e w1 ⟨v1, rfl, ho, hc1⟩
  obtain ⟨A, c, hv1⟩ := ho.opl.shape
  obtain ⟨q, hq⟩ : ∃ q, ys.length = q := ⟨_, rfl⟩
  have hql : q ≤ 9223372036854775807 := by rw [← hq]; exact ho.len
  have HQ := Lib.hid hq
  rw [hq] at hv1
  subst hv1
  have HO := Lib.hid ho.opl
  clear ho hq HV
  go_wp2_with fail
  go_loopw [6] (fun x wr => ∃ i : Nat, x = .int .i64 i ∧ i ≤ q ∧ Hid (firstVal ys k = firstVal (ys.drop i) k) ∧ w1 = wr) (fun x _ => q - (intOf x).toNat)
  case atStart => exact ⟨0, rfl, Nat.zero_le _, Lib.hid rfl, rfl⟩
  case round =>
    obtain ⟨i, rfl, hi, hf, rfl⟩ := hrel
    by_cases hlt : i < q
    · have hd : decide ((i : Int) < (q : Int)) = true := decide_eq_true (by omega)
      obtain ⟨ad, rfl, hx0, hx1, hx2⟩ := HO.out.at.2.2 i (by rw [HQ.out]; exact hlt)
      have hdr := drop_at (show i < ys.length from by rw [HQ.out]; exact hlt) rfl
      obtain ⟨x, hx⟩ : ∃ x, ys.getD i opZero = x := ⟨_, rfl⟩
      rw [hx] at hx0 hx1 hx2 hdr
      have HD := Lib.hid (show firstVal ys k = if x.key = k then x.val else firstVal (ys.drop (i + 1)) k from by rw [hf.out, hdr]; rfl)
      obtain ⟨xw, xk, xv⟩ := x
      clear hx hdr
      by_cases e : xk = k
      · have de : (xk == k) = true := by simp [e]
        have HF := Lib.hid (show valR xs k = xv from by rw [HR.out, HD.out, if_pos e])
        clear e
        go_wp2_with fail
        go_ret
        exact ⟨ret_int HF.out.symm, hc1⟩
      · have de : (xk == k) = false := by simp [e]
        have HF := Lib.hid (show firstVal ys k = firstVal (ys.drop (i + 1)) k from by rw [HD.out, if_neg e])
        clear e
        go_wp2_with fail
        go_roundw
        case rel => exact ⟨i + 1, by go_num, by omega, HF, trivial⟩
        case measure => simp [intOf]; omega
    · have hd : decide ((i : Int) < (q : Int)) = false := decide_eq_false (by omega)
      have HF := Lib.hid (show valR xs k = 0 from by rw [HR.out, hf.out, List.drop_eq_nil_of_le (by rw [HQ.out]; omega)]; rfl)
      go_wp2_with fail
      go_ret
      exact ⟨ret_int HF.out.symm, hc1⟩
set_option maxHeartbeats 1000000 in
theorem last_ref06 (w : World) (v : Value) (xs : List Opn) (s b c k u z : Int) (hz : valR xs k = z) (hv : Opl w v xs) (hn : xs.length ≤ 10000) : Calls Try.prog 18 #[.agg #[.int .i64 s, .int .i64 b, .int .i64 c, v], .int .i64 k, .int .i64 u] w fun e w' => e = .returned (.bool (z == u)) ∧ Ch nob w w' := by
  obtain ⟨A, cp, rfl⟩ := hv.shape
  obtain ⟨n, hn2⟩ : ∃ n, xs.length = n := ⟨_, rfl⟩
  rw [hn2] at hv ⊢
  obtain ⟨_, hc0, _⟩ := one_new w #[.int .i64 s, .int .i64 b, .int .i64 c, .slice A n cp] 33
  have HV := value_ref05 _ _ xs k (hv.keep hc0) hn
  rw [hz] at HV
  have HV2 := Lib.hid HV
  clear hv hn hn2 HV hz
  go_enter Try.func18, Try.ntmps18
  go_wp2_with fail
  refine HV2.out.mono ?_
  rintro e w1 ⟨rfl, hc1⟩
  have hc2 := hc0.seq hc1
  clear HV2
  go_wp2_with fail
  go_ret
  exact ⟨rfl, hc2⟩

/-! ### How often a value is written -/
def isW (v : Int) (x : Opn) : Bool := x.wr && x.val == v
def tmN (xs : List Opn) (v : Int) : Nat → Nat
  | 0 => 0
  | j + 1 => tmN xs v j + if isW v (xs.getD j opZero) then 1 else 0
theorem tmN_le (xs : List Opn) (v : Int) : ∀ j, tmN xs v j ≤ j
  | 0 => Nat.le_refl _
  | j + 1 => by have := tmN_le xs v j; unfold tmN; split <;> omega
def tmT (hs : List Txr) (v : Int) : Nat → Nat
  | 0 => 0
  | i + 1 => tmT hs v i + tmN (hs.getD i txrZero).ops v (hs.getD i txrZero).ops.length
theorem tmT_le (hs : List Txr) (v : Int) : ∀ i, tmT hs v i ≤ countTo hs i
  | 0 => Nat.le_refl _
  | i + 1 => by have := tmT_le hs v i; have := tmN_le (hs.getD i txrZero).ops v (hs.getD i txrZero).ops.length; unfold tmT countTo; omega
set_option maxHeartbeats 2000000 in
theorem times_ref06 (w : World) (v : Value) (hs : List Txr) (u : Int) (hv : Txns w v hs) (hn : countTo hs hs.length ≤ 1000000) : Calls Try.prog 71 #[v, .int .i64 u] w fun e w' => e = .returned (.int .i64 (tmT hs u hs.length)) ∧ w = w' := by
  obtain ⟨A, cp, rfl⟩ := hv.shape
  have HV := Lib.hid hv
  obtain ⟨_, ⟨_, hlen⟩, _⟩ := hv.at
  obtain ⟨n, hn2⟩ : ∃ n, hs.length = n := ⟨_, rfl⟩
  have HN := Lib.hid hn2
  rw [hn2] at HV hlen hn ⊢
  have HC := Lib.hid hn
  clear hv hn2 hn
  go_enter Try.func71, Try.ntmps71
  go_wp2_with fail
  go_loopw [6, 5] (fun x y wr => ∃ i m : Nat, x = .int .i64 i ∧ y = .int .i64 m ∧ i ≤ n ∧ Hid (m = tmT hs u i) ∧ w = wr) (fun x _ _ => n - (intOf x).toNat)
  case atStart => exact ⟨0, 0, rfl, rfl, Nat.zero_le _, Lib.hid rfl, rfl⟩
  case round =>
    obtain ⟨i, m, rfl, rfl, hi, hm, rfl⟩ := hrel
    by_cases hlt : i < n
    · have hd : decide ((i : Int) < (n : Int)) = true := decide_eq_true (by omega)
      obtain ⟨ad, u2, rfl, hx0, hx1, hx2, hx3, hu⟩ := HV.out.at.2.2 i (by rw [HN.out]; exact hlt)
      obtain ⟨A2, c2, rfl⟩ := hu.shape
      have hle := countTo_mono hs (show i + 1 ≤ n by omega)
      have hcs : countTo hs (i + 1) = countTo hs i + (hs.getD i txrZero).ops.length := rfl
      have hws : tmT hs u (i + 1) = tmT hs u i + tmN (hs.getD i txrZero).ops u (hs.getD i txrZero).ops.length := rfl
      have hwl := tmT_le hs u i
      obtain ⟨xs, hxs⟩ : ∃ xs, (hs.getD i txrZero).ops = xs := ⟨_, rfl⟩
      rw [hxs] at hx3 hu hcs hws
      obtain ⟨l, hl⟩ : ∃ l, xs.length = l := ⟨_, rfl⟩
      rw [hl] at hx3 hu hcs hws
      have hb1 : m + l ≤ 1000000 := by have := HC.out; have := hm.out; omega
      have HWS := Lib.hid (show tmT hs u (i + 1) = m + tmN xs u l from by rw [hws, ← hm.out])
      have HL := Lib.hid hl
      have HU := Lib.hid hu
      clear hu hcs hws hwl hxs hl hle hx0 hx1 hx2
      go_wp2_with fail
      go_loopw [7, 5] (fun x y wr => ∃ j q : Nat, x = .int .i64 j ∧ y = .int .i64 q ∧ j ≤ l ∧ q ≤ m + j ∧ Hid (q = m + tmN xs u j) ∧ w = wr) (fun x _ _ => l - (intOf x).toNat)
      case atStart => exact ⟨0, m, rfl, rfl, Nat.zero_le _, by omega, Lib.hid rfl, rfl⟩
      case round =>
        obtain ⟨j, q, rfl, rfl, hj, hq, hqq, rfl⟩ := hrel
        by_cases hlt2 : j < l
        · have hd2 : decide ((j : Int) < (l : Int)) = true := decide_eq_true (by omega)
          obtain ⟨ad2, rfl, hy0, hy1, hy2⟩ := HU.out.at.2.2 j (by rw [HL.out]; exact hlt2)
          have hsuc : tmN xs u (j + 1) = tmN xs u j + if isW u (xs.getD j opZero) then 1 else 0 := rfl
          obtain ⟨x, hx⟩ : ∃ x, xs.getD j opZero = x := ⟨_, rfl⟩
          rw [hx] at hy0 hy1 hy2 hsuc
          obtain ⟨xw, xk, xv⟩ := x
          have HS := Lib.hid (show m + tmN xs u (j + 1) = q + if (xw && xv == u) then 1 else 0 from by rw [hsuc, hqq.out, Nat.add_assoc]; rfl)
          clear hx hsuc
          cases xw with
          | false =>
            have HQ := Lib.hid (show q = m + tmN xs u (j + 1) from by rw [HS.out]; rfl)
            go_wp2_with fail
            go_roundw
            case rel => exact ⟨j + 1, q, by go_num, rfl, by omega, by omega, HQ, trivial⟩
            case measure => simp [intOf]; omega
          | true =>
            cases he : (xv == u) with
            | false =>
              have HQ := Lib.hid (show q = m + tmN xs u (j + 1) from by rw [HS.out, he]; rfl)
              go_wp2_with fail
              go_roundw
              case rel => exact ⟨j + 1, q, by go_num, rfl, by omega, by omega, HQ, trivial⟩
              case measure => simp [intOf]; omega
            | true =>
              have HQ := Lib.hid (show q + 1 = m + tmN xs u (j + 1) from by rw [HS.out, he]; rfl)
              go_wp2_with fail
              go_roundw
              case rel => exact ⟨j + 1, q + 1, by go_num, by go_num, by omega, by omega, HQ, trivial⟩
              case measure => simp [intOf]; omega
        · have hd2 : decide ((j : Int) < (l : Int)) = false := decide_eq_false (by omega)
          obtain rfl : j = l := by omega
          have HQ := Lib.hid (show q = tmT hs u (i + 1) from by rw [HWS.out, hqq.out])
          go_wp2_with fail
          go_roundw
          case rel => exact ⟨i + 1, q, by go_num, rfl, by omega, HQ, trivial⟩
          case measure => simp [intOf]; omega
    · have hd : decide ((i : Int) < (n : Int)) = false := decide_eq_false (by omega)
      obtain rfl : i = n := by omega
      go_wp2_with fail
      go_ret
      exact ⟨ret_int (by rw [hm.out]), rfl⟩

/-! ### Who writes a value to a key -/
def isWK (k v : Int) (x : Opn) : Bool := x.wr && (x.key == k && x.val == v)
def wroteB (xs : List Opn) (k v : Int) : Bool := (List.range xs.length).any fun j => isWK k v (xs.getD j opZero)
/-- z is the first transaction that writes v to k; -1: none does. -/
def IsWriter (hs : List Txr) (k v z : Int) : Prop := (∃ i : Nat, i < hs.length ∧ z = i ∧ wroteB (hs.getD i txrZero).ops k v = true ∧ ∀ j, j < i → wroteB (hs.getD j txrZero).ops k v = false) ∨ (z = -1 ∧ ∀ j, j < hs.length → wroteB (hs.getD j txrZero).ops k v = false)
theorem any_yes {p : Nat → Bool} {n j : Nat} (hj : j < n) (h : p j = true) : (List.range n).any p = true := by
  rw [List.any_eq_true]; exact ⟨j, List.mem_range.2 hj, h⟩
theorem any_no {p : Nat → Bool} {n : Nat} (h : ∀ j, j < n → p j = false) : (List.range n).any p = false := by
  rw [List.any_eq_false]; intro j hj; rw [h j (List.mem_range.1 hj)]; decide
set_option maxHeartbeats 2000000 in
theorem writer_ref06 (w : World) (v : Value) (hs : List Txr) (key u : Int) (hv : Txns w v hs) (hn : countTo hs hs.length ≤ 1000000) : Calls Try.prog 57 #[v, .int .i64 key, .int .i64 u] w fun e w' => ∃ z, e = .returned (.int .i64 z) ∧ IsWriter hs key u z ∧ Ch nob w w' := by
  obtain ⟨A, cp, rfl⟩ := hv.shape
  have HV := Lib.hid hv
  obtain ⟨_, ⟨_, hlen⟩, _⟩ := hv.at
  obtain ⟨n, hn2⟩ : ∃ n, hs.length = n := ⟨_, rfl⟩
  have HN := Lib.hid hn2
  rw [hn2] at HV hlen hn ⊢
  have HC := Lib.hid hn
  clear hv hn2 hn
  go_enter Try.func57, Try.ntmps57
  go_wp2_with fail
  go_loopw [7] (fun x wr => ∃ i : Nat, x = .int .i64 i ∧ i ≤ n ∧ Hid (∀ j, j < i → wroteB (hs.getD j txrZero).ops key u = false) ∧ Ch nob w wr) (fun x _ => n - (intOf x).toNat)
  case atStart => exact ⟨0, rfl, Nat.zero_le _, Lib.hid (fun j hj => by omega), Ch.refl _ _⟩
  case round =>
    obtain ⟨i, rfl, hi, hst, hc⟩ := hrel
    by_cases hlt : i < n
    · have hd : decide ((i : Int) < (n : Int)) = true := decide_eq_true (by omega)
      have HI := Lib.hid (show i < hs.length from by rw [HN.out]; exact hlt)
      obtain ⟨xs, hxs⟩ : ∃ xs, (hs.getD i txrZero).ops = xs := ⟨_, rfl⟩
      obtain ⟨l, hl⟩ : ∃ l, xs.length = l := ⟨_, rfl⟩
      have HXS := Lib.hid hxs
      have HL := Lib.hid hl
      clear hxs hl
      go_wp2_with fail
      go_loopw [8] (fun x wr => ∃ j : Nat, x = .int .i64 j ∧ j ≤ l ∧ Hid (∀ q, q < j → isWK key u (xs.getD q opZero) = false) ∧ Ch nob w wr) (fun x _ => l - (intOf x).toNat)
      case atStart => exact ⟨0, rfl, Nat.zero_le _, Lib.hid (fun j hj => by omega), hc⟩
      case round =>
        clear hc
        obtain ⟨j, rfl, hj, hst2, hc⟩ := hrel
        obtain ⟨ad, u2, rfl, hx0, hx1, hx2, hx3, hu⟩ := HV.out.both hc i HI.out
        rw [HXS.out] at hu
        obtain ⟨A2, c2, rfl⟩ := hu.shape
        have hll : l ≤ 9223372036854775807 := by have := hu.at.2.1.2; rw [HL.out] at this; exact this
        rw [HL.out] at hx3 hu
        clear hx0 hx1 hx2
        by_cases hlt2 : j < l
        · have hd2 : decide ((j : Int) < (l : Int)) = true := decide_eq_true (by omega)
          obtain ⟨ad2, rfl, hy0, hy1, hy2⟩ := (hu.keep hc).at.2.2 j (by rw [HL.out]; exact hlt2)
          obtain ⟨x, hx⟩ : ∃ x, xs.getD j opZero = x := ⟨_, rfl⟩
          rw [hx] at hy0 hy1 hy2
          obtain ⟨xw, xk, xv⟩ := x
          have hc3 := hc.alloc (.cells #[.bool xw, .int .i64 xk, .int .i64 xv] 35)
          have HS := Lib.hid (show isWK key u (xs.getD j opZero) = (xw && (xk == key && xv == u)) from by rw [hx]; rfl)
          have hno : isWK key u (xs.getD j opZero) = false → Hid (∀ q, q < j + 1 → isWK key u (xs.getD q opZero) = false) := fun h => Lib.hid (fun q hq => by
            by_cases e : q = j
            · rw [e]; exact h
            · exact hst2.out q (by omega))
          have HNO := Lib.hid hno
          clear hx hno hu hc
          cases xw with
          | false =>
            have HT := HNO.out (by rw [HS.out]; rfl)
            go_wp2_with fail
            go_roundw
            case rel => exact ⟨j + 1, by go_num, by omega, HT, hc3⟩
            case measure => simp [intOf]; omega
          | true =>
            cases he : (xk == key) with
            | false =>
              have HT := HNO.out (by rw [HS.out, he]; rfl)
              go_wp2_with fail
              go_roundw
              case rel => exact ⟨j + 1, by go_num, by omega, HT, hc3⟩
              case measure => simp [intOf]; omega
            | true =>
              cases he2 : (xv == u) with
              | false =>
                have HT := HNO.out (by rw [HS.out, he, he2]; rfl)
                go_wp2_with fail
                go_roundw
                case rel => exact ⟨j + 1, by go_num, by omega, HT, hc3⟩
                case measure => simp [intOf]; omega
              | true =>
                have HT := Lib.hid (show IsWriter hs key u (i : Int) from .inl ⟨i, HI.out, rfl, (by rw [HXS.out]; exact any_yes (show j < xs.length from by rw [HL.out]; exact hlt2) (by rw [HS.out, he, he2]; rfl)), hst.out⟩)
                go_wp2_with fail
                go_ret
                exact ⟨_, rfl, HT.out, hc3⟩
        · have hd2 : decide ((j : Int) < (l : Int)) = false := decide_eq_false (by omega)
          obtain rfl : j = l := by omega
          have HT := Lib.hid (show ∀ q, q < i + 1 → wroteB (hs.getD q txrZero).ops key u = false from fun q hq => by
            by_cases e : q = i
            · rw [e, HXS.out]; exact any_no (fun r hr => hst2.out r (by have := HL.out; omega))
            · exact hst.out q (by omega))
          go_wp2_with fail
          go_roundw
          case rel => exact ⟨i + 1, by go_num, by omega, HT, hc⟩
          case measure => simp [intOf]; omega
    · have hd : decide ((i : Int) < (n : Int)) = false := decide_eq_false (by omega)
      have HT := Lib.hid (show IsWriter hs key u (-1) from .inr ⟨rfl, fun j hj => hst.out j (by have := HN.out; omega)⟩)
      go_wp2_with fail
      go_ret
      exact ⟨_, rfl, HT.out, hc⟩
end Go.Proofs.Ytobfanodjdkkoaa
