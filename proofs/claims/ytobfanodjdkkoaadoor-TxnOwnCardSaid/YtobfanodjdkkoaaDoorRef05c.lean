/- The document's account of a transaction: what is read of others: the walk. No condition but each theorem's own. -/
import Derived.Test.YtobfanodjdkkoaaDoorRef05b
set_option linter.unusedVariables false
set_option linter.unusedSimpArgs false
namespace Go.Proofs.YtobfanodjdkkoaaDoor
open Go.RowKit Go.Maps

theorem OwnO.made (w : World) (base e : Nat) (hb : base ≤ w.heap.size) : OwnO (w.alloc (.cells #[] e)) base e (.slice (some ⟨w.heap.size, 0, none⟩) 0 0) [] :=
  World.ownsRow_made w #[] 0 hb (by unfold maxLen; omega) (by simp)
theorem OwnO.to {w : World} {base e : Nat} {v : Value} {xs ys : List Opn} (h : OwnO w base e v xs) (he : xs = ys) : OwnO w base e v ys := he ▸ h
/-- A fresh row of just these operations. -/
def RetList (w : World) (xs : List Opn) (e : Ending) (w' : World) : Prop := ∃ v, e = .returned v ∧ OwnO w' w.heap.size 33 v xs ∧ Ch nob w w'
set_option maxRecDepth 100000 in
set_option maxHeartbeats 4000000 in
theorem reads_ref05 (w : World) (v : Value) (xs : List Opn) (hv : Opl w v xs) (hn : xs.length ≤ 10000) :
    Calls Tryd.prog 13 #[v] w (RetList w (readsR xs 64)) := by
  obtain ⟨A, cp, rfl⟩ := hv.shape
  have HV := Lib.hid hv
  have ho0 := Lib.hid (OwnO.made w w.heap.size 33 (Nat.le_refl _))
  have hc0 : Ch nob w (w.alloc (.cells #[] 33)) := (Ch.refl _ _).alloc _
  obtain ⟨n, hn2⟩ : ∃ n, xs.length = n := ⟨_, rfl⟩
  have HN := Lib.hid hn2
  rw [hn2] at hn HV ⊢
  clear hv hn2
  go_enter Tryd.func13, Tryd.ntmps13
  go_wp2_with fail
  go_loopw [4, 3] (fun x y wr => ∃ k : Nat, x = .int .i64 k ∧ k ≤ 64 ∧ Hid (OwnO wr w.heap.size 33 y (readsR xs k)) ∧ Ch nob w wr) (fun x _ _ => 64 - (intOf x).toNat)
  case atStart => exact ⟨0, rfl, by omega, ho0, hc0⟩
  case round =>
    clear ho0 hc0
    obtain ⟨k, rfl, hk, ho, hc⟩ := hrel
    by_cases hlt : k < 64
    · have hd : decide ((k : Int) < 64) = true := decide_eq_true (by omega)
      have HB1 := Lib.hid (show (readsR xs k).length ≤ 640000 from by
        have := readsR_len xs k
        rw [HN.out] at this
        have h2 := Nat.mul_le_mul (show k ≤ 64 by omega) hn
        omega)
      have ho1 := Lib.hid (ho.out.to (show readsR xs k = readsR xs k ++ readsK xs (k : Int) 0 from (List.append_nil _).symm))
      clear ho
      go_wp2_with fail
      obtain ⟨wo, hwo⟩ : ∃ wo, wr = wo := ⟨_, rfl⟩
      rw [hwo] at ho1 hc ⊢
      clear hwo
      go_loopw [5, 3] (fun x y wr => ∃ i : Nat, x = .int .i64 i ∧ i ≤ n ∧ Hid (OwnO wr w.heap.size 33 y (readsR xs k ++ readsK xs (k : Int) i)) ∧ Ch nob w wr) (fun x _ _ => n - (intOf x).toNat)
      case atStart => exact ⟨0, rfl, by omega, ho1, hc⟩
      case round =>
        clear ho1 hc
        obtain ⟨i, rfl, hi, ho, hc⟩ := hrel
        by_cases hlt2 : i < n
        · have hd2 : decide ((i : Int) < (n : Int)) = true := decide_eq_true (by omega)
          have hv1 := HV.out.keep hc
          have HB := Lib.hid (before_ref05 wr _ xs i (k : Int) hv1 (by rw [HN.out]; exact hi) (by rw [HN.out]; omega))
          have HLN := Lib.hid (show (readsR xs k ++ readsK xs (k : Int) i).length ≤ 1000000 from by
            have := readsK_len xs (k : Int) i
            have := HB1.out
            rw [List.length_append]; omega)
          clear hv1
          go_wp2_with fail
          refine HB.out.mono ?_
          rintro e w1 ⟨rfl, hc1⟩
          have hc2 := hc.seq hc1
          have ho2 := ho.out.keep hc1
          clear hc hc1 HB ho
          obtain ⟨o, hoo⟩ : ∃ o, lastAt xs i (k : Int) = o := ⟨_, rfl⟩
          rw [hoo]
          have HO := Lib.hid hoo
          clear hoo
          obtain ⟨p, hp⟩ : ∃ p, o.getD opZero = p := ⟨_, rfl⟩
          rw [hp]
          clear hp
          have hc3 : Ch nob w (w1.alloc (.cells #[.bool p.wr, .int .i64 p.key, .int .i64 p.val] 33)) := hc2.alloc _
          have ho3 := Lib.hid (ho2.alloc (.cells #[.bool p.wr, .int .i64 p.key, .int .i64 p.val] 33))
          obtain ⟨ad, he, hx0, hx1, hx2⟩ := (HV.out.keep hc3).at.2.2 i (by rw [HN.out]; exact hlt2)
          subst he
          obtain ⟨x, hx⟩ : ∃ x, xs.getD i opZero = x := ⟨_, rfl⟩
          rw [hx] at hx0 hx1 hx2
          have HX := Lib.hid hx
          clear hx hc2 ho2
          obtain ⟨xw, xk, xv⟩ := x
          have hnext : ∀ (wz : World) (y : Value), ¬ (xk = (k : Int) ∧ readAt xs i = true) → OwnO wz w.heap.size 33 y (readsR xs k ++ readsK xs (k : Int) i) → Hid (OwnO wz w.heap.size 33 y (readsR xs k ++ readsK xs (k : Int) (i + 1))) := fun wz y h1 h2 => Lib.hid (by
            rw [readsK_succ, HX.out, if_neg h1]; exact h2)
          have HNX := Lib.hid hnext
          clear hnext
          by_cases hkk : xk = (k : Int)
          · have hdk : (xk == (k : Int)) = true := by simp [hkk]
            have HRA := Lib.hid (show readAt xs i = (o.isNone && !xw) from by
              unfold readAt
              rw [HX.out]
              show ((lastAt xs i xk).isNone && !xw) = _
              rw [hkk, HO.out])
            have HKK := Lib.hid hkk
            clear hkk
            cases xw with
            | true =>
              have ho4 := HNX.out _ _ (fun h => by rw [HRA.out] at h; simp at h) ho3.out
              clear ho3
              go_wp2_with fail
              go_roundw
              case rel => exact ⟨i + 1, by go_num, by omega, ho4, hc3⟩
              case measure => simp [intOf]; omega
            | false =>
              cases o with
              | some o =>
                have ho4 := HNX.out _ _ (fun h => by rw [HRA.out] at h; simp at h) ho3.out
                clear ho3
                go_wp2_with fail
                go_roundw
                case rel => exact ⟨i + 1, by go_num, by omega, ho4, hc3⟩
                case measure => simp [intOf]; omega
              | none =>
                have hnb := Lib.hid (Blk.new (w1.alloc (.cells #[.bool p.wr, .int .i64 p.key, .int .i64 p.val] 33)) #[.bool false, .int .i64 xk, .int .i64 xv] 33)
                have ho5 := Lib.hid (ho3.out.alloc (.cells #[.bool false, .int .i64 xk, .int .i64 xv] 33))
                have hc5 := hc3.alloc (.cells #[.bool false, .int .i64 xk, .int .i64 xv] 33)
                have hz5 := Lib.hid hc5.size
                clear ho3
                go_wp2_with (at_builtin; refine wpList_append_op rfl (.tmp 45) (.tmp 50) 22 33 rfl elem_op w.heap.size _ _ rfl ho5.out _ ⟨false, xk, xv⟩ 33 rfl (by simpa using hnb.out) HLN.out hz5.out ?_; intro v3 w3 hown3 hg3; have hc6 := hc5.grown_own hg3 (fun b hb => (ho5.out.ge b hb).1))
                have ho6 := Lib.hid (show OwnO w3 w.heap.size 33 v3 (readsR xs k ++ readsK xs (k : Int) (i + 1)) from by
                  rw [readsK_succ, HX.out, if_pos ⟨HKK.out, by rw [HRA.out]; rfl⟩, ← List.append_assoc]; exact hown3)
                clear hx0 hx1 hx2 ho5 hc5 hz5 hnb hown3 hg3
                go_roundw
                case rel => exact ⟨i + 1, by go_num, by omega, ho6, hc6⟩
                case measure => simp [intOf]; omega
          · have hdk : (xk == (k : Int)) = false := by simp [hkk]
            have ho4 := HNX.out _ _ (fun h => hkk h.1) ho3.out
            clear ho3
            go_wp2_with fail
            go_roundw
            case rel => exact ⟨i + 1, by go_num, by omega, ho4, hc3⟩
            case measure => simp [intOf]; omega
        · have hd2 : decide ((i : Int) < (n : Int)) = false := decide_eq_false (by omega)
          obtain rfl : i = n := by omega
          have ho4 := Lib.hid (ho.out.to (show readsR xs k ++ readsK xs (k : Int) i = readsR xs (k + 1) from by
            show _ = readsR xs k ++ readsK xs (k : Int) xs.length
            rw [HN.out]))
          clear ho
          go_wp2_with fail
          go_roundw
          case rel => exact ⟨k + 1, by go_num, by omega, ho4, hc⟩
          case measure => simp [intOf]; omega
    · have hd : decide ((k : Int) < 64) = false := decide_eq_false (by omega)
      obtain rfl : k = 64 := by omega
      go_wp2_with fail
      go_ret
      exact ⟨_, rfl, ho.out, hc⟩
end Go.Proofs.YtobfanodjdkkoaaDoor
