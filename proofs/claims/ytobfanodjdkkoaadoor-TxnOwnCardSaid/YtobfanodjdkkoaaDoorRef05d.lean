/- The document's account of a transaction: what it writes for others. No condition but each theorem's own. -/
import Derived.Test.YtobfanodjdkkoaaDoorRef05c
set_option linter.unusedVariables false
set_option linter.unusedSimpArgs false
namespace Go.Proofs.YtobfanodjdkkoaaDoor
open Go.RowKit Go.Maps

def writesR (xs : List Opn) : Nat → List Opn
  | 0 => []
  | k + 1 => writesR xs k ++ (lastW xs xs.length (k : Int)).toList
theorem writesR_len (xs : List Opn) : ∀ k : Nat, (writesR xs k).length ≤ k
  | 0 => Nat.le_refl _
  | k + 1 => by
    show (writesR xs k ++ (lastW xs xs.length (k : Int)).toList).length ≤ _
    have := writesR_len xs k
    rw [List.length_append]
    cases lastW xs xs.length (k : Int) <;> simp <;> omega
theorem mem_writesR (xs : List Opn) (x : Opn) : ∀ k : Nat, x ∈ writesR xs k ↔ (0 ≤ x.key ∧ x.key < k) ∧ lastW xs xs.length x.key = some x
  | 0 => ⟨fun h => (by cases h), fun h => (by omega)⟩
  | k + 1 => by
    show x ∈ writesR xs k ++ (lastW xs xs.length (k : Int)).toList ↔ _
    rw [List.mem_append, mem_writesR xs x k, Option.mem_toList]
    constructor
    · rintro (⟨h1, h2⟩ | h2)
      · exact ⟨by omega, h2⟩
      · have := lastW_key xs _ _ _ h2
        rw [this]
        exact ⟨by omega, h2⟩
    · rintro ⟨h1, h2⟩
      by_cases e : x.key = (k : Int)
      · exact .inr (by rw [← e]; exact h2)
      · exact .inl ⟨by omega, h2⟩
theorem writesR_rise (xs : List Opn) : ∀ k : Nat, (writesR xs k).Pairwise (fun x y => x.key < y.key)
  | 0 => List.Pairwise.nil
  | k + 1 => by
    show (writesR xs k ++ (lastW xs xs.length (k : Int)).toList).Pairwise _
    rw [List.pairwise_append]
    refine ⟨writesR_rise xs k, ?_, fun x hx y hy => ?_⟩
    · cases lastW xs xs.length (k : Int) <;> simp
    · have h1 := ((mem_writesR xs x k).1 hx).1
      have h2 := lastW_key xs _ _ _ (Option.mem_toList.1 hy)
      omega
theorem lastW_in {xs : List Opn} {k : Int} {o : Opn} : ∀ {i}, lastW xs i k = some o → ∃ j, j < i ∧ xs.getD j opZero = o
  | 0, h => by cases h
  | i + 1, h => by
    unfold lastW at h
    split at h
    · cases h; exact ⟨i, by omega, rfl⟩
    · obtain ⟨j, h1, h2⟩ := lastW_in h; exact ⟨j, by omega, h2⟩
theorem writes_is {xs ys : List Opn} (hk : Keys64 xs) (h1 : ys.Pairwise (fun x y => x.key < y.key)) (h2 : ∀ x, x ∈ ys ↔ lastW xs xs.length x.key = some x) : ys = writesR xs 64 :=
  strict_eq h1 (writesR_rise xs 64) fun x => by
    rw [h2, mem_writesR]
    refine ⟨fun h => ⟨?_, h⟩, fun h => h.2⟩
    obtain ⟨j, h3, h4⟩ := lastW_in h
    have := hk j h3
    rw [h4] at this
    exact this
set_option maxRecDepth 100000 in
set_option maxHeartbeats 4000000 in
theorem writes_ref05 (w : World) (v : Value) (xs : List Opn) (hv : Opl w v xs) (hn : xs.length ≤ 10000) :
    Calls Tryd.prog 14 #[v] w (RetList w (writesR xs 64)) := by
  obtain ⟨A, cp, rfl⟩ := hv.shape
  have HV := Lib.hid hv
  have ho0 := Lib.hid (OwnO.made w w.heap.size 33 (Nat.le_refl _))
  have hc0 : Ch nob w (w.alloc (.cells #[] 33)) := (Ch.refl _ _).alloc _
  obtain ⟨n, hn2⟩ : ∃ n, xs.length = n := ⟨_, rfl⟩
  have HN := Lib.hid hn2
  rw [hn2] at hn HV ⊢
  clear hv hn2
  go_enter Tryd.func14, Tryd.ntmps14
  go_wp2_with fail
  go_loopw [4, 3] (fun x y wr => ∃ k : Nat, x = .int .i64 k ∧ k ≤ 64 ∧ Hid (OwnO wr w.heap.size 33 y (writesR xs k)) ∧ Ch nob w wr) (fun x _ _ => 64 - (intOf x).toNat)
  case atStart => exact ⟨0, rfl, by omega, ho0, hc0⟩
  case round =>
    clear ho0 hc0
    obtain ⟨k, rfl, hk, ho, hc⟩ := hrel
    by_cases hlt : k < 64
    · have hd : decide ((k : Int) < 64) = true := decide_eq_true (by omega)
      have HB1 := Lib.hid (show (writesR xs k).length ≤ 1000000 from by have := writesR_len xs k; omega)
      go_wp2_with fail
      obtain ⟨wo, hwo⟩ : ∃ wo, wr = wo := ⟨_, rfl⟩
      rw [hwo] at ho hc ⊢
      clear hwo
      go_loopw [6, 5] (fun x z wr => ∃ (i : Nat) (q : Int), x = .int .i64 i ∧ z = .int .i64 q ∧ i ≤ n ∧ Hid ((q = -1 ∧ lastW xs i (k : Int) = none) ∨ ∃ j : Nat, q = (j : Int) ∧ j < i ∧ lastW xs i (k : Int) = some (xs.getD j opZero)) ∧ wo = wr) (fun x _ _ => n - (intOf x).toNat)
      case atStart => exact ⟨0, -1, rfl, rfl, by omega, Lib.hid (.inl ⟨rfl, rfl⟩), rfl⟩
      case round =>
        obtain ⟨i, q, rfl, rfl, hi, hq, rfl⟩ := hrel
        by_cases hlt2 : i < n
        · have hd2 : decide ((i : Int) < (n : Int)) = true := decide_eq_true (by omega)
          obtain ⟨ad, rfl, hx0, hx1, hx2⟩ := (HV.out.keep hc).at.2.2 i (by rw [HN.out]; exact hlt2)
          obtain ⟨x, hx⟩ : ∃ x, xs.getD i opZero = x := ⟨_, rfl⟩
          rw [hx] at hx0 hx1 hx2
          have hsuc : lastW xs (i + 1) (k : Int) = if x.wr = true ∧ x.key = (k : Int) then some x else lastW xs i (k : Int) := by rw [← hx]; rfl
          have HS := Lib.hid hsuc
          have HX := Lib.hid hx
          clear hx hsuc
          obtain ⟨xw, xk, xv⟩ := x
          have hno : ¬ (xw = true ∧ xk = (k : Int)) → Hid ((q = -1 ∧ lastW xs (i + 1) (k : Int) = none) ∨ ∃ j : Nat, q = (j : Int) ∧ j < i + 1 ∧ lastW xs (i + 1) (k : Int) = some (xs.getD j opZero)) := fun h => Lib.hid (by
            rw [HS.out, if_neg h]
            rcases hq.out with h1 | ⟨j, h1, h2, h3⟩
            · exact .inl h1
            · exact .inr ⟨j, h1, by omega, h3⟩)
          have HNO := Lib.hid hno
          clear hno
          by_cases hkk : xk = (k : Int)
          · have hdk : (xk == (k : Int)) = true := by simp [hkk]
            have HKK := Lib.hid hkk
            clear hkk
            cases xw with
            | true =>
              have hq2 : Hid (((i : Int) = -1 ∧ lastW xs (i + 1) (k : Int) = none) ∨ ∃ j : Nat, (i : Int) = (j : Int) ∧ j < i + 1 ∧ lastW xs (i + 1) (k : Int) = some (xs.getD j opZero)) := Lib.hid (.inr ⟨i, rfl, by omega, by rw [HS.out, if_pos ⟨rfl, HKK.out⟩, HX.out]⟩)
              go_wp2_with fail
              go_roundw
              case rel => exact ⟨i + 1, (i : Int), by go_num, rfl, by omega, hq2, trivial⟩
              case measure => simp [intOf]; omega
            | false =>
              have hq2 := HNO.out (fun h => by cases h.1)
              go_wp2_with fail
              go_roundw
              case rel => exact ⟨i + 1, q, by go_num, rfl, by omega, hq2, trivial⟩
              case measure => simp [intOf]; omega
          · have hdk : (xk == (k : Int)) = false := by simp [hkk]
            have hq2 := HNO.out (fun h => hkk h.2)
            go_wp2_with fail
            go_roundw
            case rel => exact ⟨i + 1, q, by go_num, rfl, by omega, hq2, trivial⟩
            case measure => simp [intOf]; omega
        · have hd2 : decide ((i : Int) < (n : Int)) = false := decide_eq_false (by omega)
          obtain rfl : i = n := by omega
          rcases hq.out with ⟨h1, h2⟩ | ⟨j, h1, h2, h3⟩
          · subst h1
            have ho4 := Lib.hid (ho.out.to (show writesR xs k = writesR xs (k + 1) from by
              show _ = writesR xs k ++ (lastW xs xs.length (k : Int)).toList
              rw [HN.out, h2]; simp))
            clear ho h2 hq
            go_wp2_with fail
            go_roundw
            case rel => exact ⟨k + 1, by go_num, by omega, ho4, hc⟩
            case measure => simp [intOf]; omega
          · subst h1
            have hge : decide ((0 : Int) ≤ (j : Int)) = true := decide_eq_true (by omega)
            obtain ⟨ad, rfl, hx0, hx1, hx2⟩ := (HV.out.keep hc).at.2.2 j (by rw [HN.out]; exact h2)
            obtain ⟨x, hx⟩ : ∃ x, xs.getD j opZero = x := ⟨_, rfl⟩
            rw [hx] at hx0 hx1 hx2 h3
            have H3 := Lib.hid h3
            clear hx h3 hq
            have hnb := Lib.hid (Blk.new wo #[.bool x.wr, .int .i64 x.key, .int .i64 x.val] 33)
            have ho5 := Lib.hid (ho.out.alloc (.cells #[.bool x.wr, .int .i64 x.key, .int .i64 x.val] 33))
            have hc5 := hc.alloc (.cells #[.bool x.wr, .int .i64 x.key, .int .i64 x.val] 33)
            have hz5 := Lib.hid hc5.size
            clear ho
            go_wp2_with (at_builtin; refine wpList_append_op rfl (.tmp 35) (.tmp 40) 22 33 rfl elem_op w.heap.size _ _ rfl ho5.out _ x 33 rfl (by simpa using hnb.out) HB1.out hz5.out ?_; intro v3 w3 hown3 hg3; have hc6 := hc5.grown_own hg3 (fun b hb => (ho5.out.ge b hb).1))
            have ho6 := Lib.hid (hown3.to (show writesR xs k ++ [x] = writesR xs (k + 1) from by
              show _ = writesR xs k ++ (lastW xs xs.length (k : Int)).toList
              rw [HN.out, H3.out]; rfl))
            clear hx0 hx1 hx2 ho5 hc5 hz5 hnb hown3 hg3 hc
            go_roundw
            case rel => exact ⟨k + 1, by go_num, by omega, ho6, hc6⟩
            case measure => simp [intOf]; omega
    · have hd : decide ((k : Int) < 64) = false := decide_eq_false (by omega)
      obtain rfl : k = 64 := by omega
      go_wp2_with fail
      go_ret
      exact ⟨_, rfl, ho.out, hc⟩
end Go.Proofs.YtobfanodjdkkoaaDoor
