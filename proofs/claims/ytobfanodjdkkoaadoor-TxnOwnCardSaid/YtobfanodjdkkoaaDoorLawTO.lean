/- The law TxnOwn: a read of what was written, or read, ahead of it, put behind it, changes nothing. No condition but each theorem's own. -/
import Derived.Test.YtobfanodjdkkoaaDoorSpk5
import Derived.Test.YtobfanodjdkkoaaDoorSame5
import Derived.Test.YtobfanodjdkkoaaDoorMay05
import Derived.Test.YtobfanodjdkkoaaDoorIns5
import Derived.Test.YtobfanodjdkkoaaDoorOpAp
import Derived.Test.YtobfanodjdkkoaaDoorLast
import Derived.Test.YtobfanodjdkkoaaDoorLed
import Derived.Test.YtobfanodjdkkoaaDoorOpCut
import Derived.Deep.MidRow
set_option linter.unusedVariables false
set_option linter.unusedSimpArgs false
namespace Go.Proofs.YtobfanodjdkkoaaDoor
open Go.RowKit Go.Proofs

/-- What the operations of 'o := op.Read(l[k].Key, l[k].Value)' yield. -/
def r6 (w0 : World) (ad : Addr) (n cp k : Nat) (xk xv : Int) : Nat → Value → World → Prop
  | 0 => fun v _ => v = .slice (some ad) n cp
  | 1 => fun v _ => v = .int .i64 k
  | 2 => fun v _ => v = .pointer (some (ad.add (k * 3)))
  | 3 => fun v _ => v = .pointer (some ⟨(ad.add (k * 3)).block, (ad.add (k * 3)).off + 1, none⟩)
  | 4 => fun v _ => v = .int .i64 xk
  | 5 => fun v _ => v = .slice (some ad) n cp
  | 6 => fun v _ => v = .int .i64 k
  | 7 => fun v _ => v = .pointer (some (ad.add (k * 3)))
  | 8 => fun v _ => v = .pointer (some ⟨(ad.add (k * 3)).block, (ad.add (k * 3)).off + 2, none⟩)
  | 9 => fun v _ => v = .int .i64 xv
  | 10 => fun v _ => v = .agg #[.bool false, .int .i64 xk, .int .i64 xv]
  | 11 => fun v w => ∃ g, v = .pointer (some ⟨g, 0, none⟩) ∧ w0.heap.size ≤ g ∧ ∃ x y z, Blk w g #[x, y, z] 33
  | _ => fun _ _ => True
/-- What an operation may change. -/
def e6 (w0 : World) (w w' : World) : Prop := (Ch nob w0 w → Ch nob w0 w') ∧ ∀ g x y z, Blk w g #[x, y, z] 33 → ∃ x' y' z', Blk w' g #[x', y', z'] 33
theorem e6_nob {w0 w w' : World} (h : Ch nob w w') : e6 w0 w w' := ⟨fun h0 => h0.seq h, fun g x y z hb => ⟨x, y, z, hb.ch h (fun h => h)⟩⟩
theorem r6_stable (w0 : World) (ad : Addr) (n cp k : Nat) (xk xv : Int) (i : Nat) (v : Value) (w w' : World) (hr : r6 w0 ad n cp k xk xv i v w) (he : e6 w0 w w') : r6 w0 ad n cp k xk xv i v w' := by
  match i with
  | 0 | 1 | 2 | 3 | 4 | 5 | 6 | 7 | 8 | 9 | 10 => exact hr
  | 11 =>
    obtain ⟨g, h1, h2, x, y, z, h3⟩ := hr
    exact ⟨g, h1, h2, he.2 g x y z h3⟩
  | i + 12 => trivial
/-- What the operations of 'append(append(append([]api.Op{}, l[:k+1]...), o), l[k+1:]...)' yield. -/
def r7 (w0 : World) (ad : Addr) (n cp k : Nat) (xk xv : Int) (xs : List Opn) (L : Nat → Bool) : Nat → Value → World → Prop
  | 0 => fun v w => L 5 = false → ∃ g, v = .slice (some ⟨g, 0, none⟩) 0 0 ∧ Blk w g #[] 33 ∧ OwnO w w0.heap.size 33 v []
  | 1 => fun v _ => v = .slice (some ad) n cp
  | 2 => fun v _ => v = .int .i64 k
  | 3 => fun v _ => v = .int .i64 (k + 1 : Nat)
  | 4 => fun v _ => v = .slice (some ad) (k + 1) cp
  | 5 => fun v w => L 8 = false → OwnO w w0.heap.size 33 v ([] ++ xs.take (k + 1))
  | 6 => fun v _ => v = .agg #[.bool false, .int .i64 xk, .int .i64 xv]
  | 7 => fun v w => L 8 = false → ∃ g, v = .slice (some ⟨g, 0, none⟩) 1 1 ∧ Blk w g #[.bool false, .int .i64 xk, .int .i64 xv] 33
  | 8 => fun v w => L 13 = false → OwnO w w0.heap.size 33 v (([] ++ xs.take (k + 1)) ++ [⟨false, xk, xv⟩])
  | 9 => fun v _ => v = .slice (some ad) n cp
  | 10 => fun v _ => v = .int .i64 k
  | 11 => fun v _ => v = .int .i64 (k + 1 : Nat)
  | 12 => fun v _ => Opl w0 v (xs.drop (k + 1))
  | 13 => fun v w => OwnO w w0.heap.size 33 v ((([] ++ xs.take (k + 1)) ++ [⟨false, xk, xv⟩]) ++ xs.drop (k + 1))
  | 14 => fun v w => OwnO w w0.heap.size 33 v ((([] ++ xs.take (k + 1)) ++ [⟨false, xk, xv⟩]) ++ xs.drop (k + 1))
  | _ => fun _ _ => True
theorem mark_mono {L : Nat → Bool} {i j : Nat} (h : mark L i j = false) : L j = false := by
  unfold mark at h
  simp at h
  exact h.2
theorem r7_keep {w0 : World} {ad : Addr} {n cp k : Nat} {xk xv : Int} {xs : List Opn} {L : Nat → Bool} {i j : Nat} {u : Value} {w w' : World} (hr : r7 w0 ad n cp k xk xv xs L j u w) (hc : Ch nob w w') : r7 w0 ad n cp k xk xv xs (mark L i) j u w' := by
  match j with
  | 0 =>
    intro h
    obtain ⟨g, h1, h2, h3⟩ := hr (mark_mono h)
    exact ⟨g, h1, h2.ch hc (fun h => h), h3.keep hc⟩
  | 5 =>
    intro h
    exact OwnO.keep (hr (mark_mono h)) hc
  | 8 =>
    intro h
    exact OwnO.keep (hr (mark_mono h)) hc
  | 7 =>
    intro h
    obtain ⟨g, h1, h2⟩ := hr (mark_mono h)
    exact ⟨g, h1, h2.ch hc (fun h => h)⟩
  | 1 | 2 | 3 | 4 | 6 | 9 | 10 | 11 | 12 => exact hr
  | 13 => exact OwnO.keep hr hc
  | 14 => exact OwnO.keep hr hc
  | j + 15 => trivial
/-- What grows a row of the call's own undoes nothing that is still wanted. -/
theorem r7_grow {w0 : World} {ad : Addr} {n cp k : Nat} {xk xv : Int} {xs : List Opn} {L : Nat → Bool} {i j : Nat} {u : Value} {w w' : World} {row : Option Nat} (hr : r7 w0 ad n cp k xk xv xs L j u w) (hg : w.grownBy w' row)
    (h0 : mark L i 5 = false → False) (h5 : i = 5 ∨ mark L i 8 = true) (h58 : j = 5 → i = 5 → False) (h57 : ∀ g, i = 5 → Blk w g #[.bool false, .int .i64 xk, .int .i64 xv] 33 → row ≠ some g) (h8 : j = 8 → mark L i 13 = true) (h13 : j = 13 ∨ j = 14 → False) : r7 w0 ad n cp k xk xv xs (mark L i) j u w' := by
  match j with
  | 0 =>
    intro h
    exact (h0 h).elim
  | 5 =>
    intro h
    rcases h5 with h5 | h5
    · exact (h58 rfl h5).elim
    · rw [h] at h5; cases h5
  | 8 =>
    intro h
    rw [h8 rfl] at h; cases h
  | 7 =>
    intro h
    rcases h5 with h5 | h5
    · obtain ⟨g, h1, h2⟩ := hr (mark_mono h)
      exact ⟨g, h1, h2.grown hg (h57 g h5 h2)⟩
    · rw [h] at h5; cases h5
  | 1 | 2 | 3 | 4 | 6 | 9 | 10 | 11 | 12 => exact hr
  | 13 => exact (h13 (.inl rfl)).elim
  | 14 => exact (h13 (.inr rfl)).elim
  | j + 15 => trivial
/-- What the operations of the last row yield. -/
def r9 (base : Nat) (ta tb : Value) (rs ws : List Opn) (st : Bool) : Nat → Value → World → Prop
  | 0 | 7 | 15 => fun v _ => v = ta
  | 2 | 9 | 17 => fun v _ => v = tb
  | 1 | 3 => fun v w => OwnO w base 33 v rs
  | 8 | 10 => fun v w => OwnO w base 33 v ws
  | 4 | 11 => fun v _ => v = .int .i64 1
  | 16 | 18 => fun v _ => v = .bool st
  | _ => fun v _ => v = .bool true
theorem r9_stable (base : Nat) (ta tb : Value) (rs ws : List Opn) (st : Bool) (i : Nat) (v : Value) (w w' : World) (hr : r9 base ta tb rs ws st i v w) (hc : Ch nob w w') : r9 base ta tb rs ws st i v w' := by
  match i with
  | 1 | 3 | 8 | 10 => exact OwnO.keep hr hc
  | 0 | 2 | 4 | 5 | 6 | 7 | 9 | 11 | 12 | 13 | 14 | 15 | 16 | 17 | 18 => exact hr
  | i + 19 => exact hr
theorem ins_keys {xs zs : List Opn} {k : Nat} (h : Ins xs zs k) {F : Int → Prop} (hx : ∀ i, i < xs.length → F (xs.getD i opZero).key) : ∀ i, i < zs.length → F (zs.getD i opZero).key := by
  intro i hi
  rw [h.len] at hi
  have hkl := h.kl
  by_cases h1 : i ≤ k
  · rw [h.lo i h1]; exact hx i (by omega)
  · by_cases h2 : i = k + 1
    · rw [h2, h.mid]; exact hx k h.kl
    · obtain ⟨j, rfl⟩ : ∃ j, i = j + 1 := ⟨i - 1, by omega⟩
      rw [h.hi j (by omega)]; exact hx j (by omega)
theorem cell_keep5 {w w' : World} {a : Addr} {v : Value} (h : w.cell? a = some v) (hc : Ch nob w w') : w'.cell? a = some v := Ext.cell h ⟨w', hc⟩
theorem may_keys5 {xs : List Opn} (h : mayL xs = true) : Keys64 xs := fun i hi => by
  have h2 := may_at h hi
  unfold opOk at h2
  simp only [Bool.and_eq_true, decide_eq_true_eq] at h2
  exact ⟨h2.1.1.1.1, h2.1.1.1.2⟩
set_option maxRecDepth 100000 in
set_option maxHeartbeats 4000000 in
theorem law_txnown (w : World) (v : Value) (xs : List Opn) (hv : Opl w v xs) (hk : KeysOk xs) (at_ : Int) (hat : 0 ≤ at_ ∧ at_ ≤ 255) : Calls Tryd.prog 5 #[v, .int .u8 at_] w fun e w' => e = .returned (.bool true) ∧ Below w.heap.size w w' := by
  obtain ⟨A, cp, rfl⟩ := hv.shape
  have HV := Lib.hid hv
  have HK := Lib.hid hk
  obtain ⟨a, rfl⟩ := Int.eq_ofNat_of_zero_le hat.1
  obtain ⟨n, hn⟩ : ∃ n, xs.length = n := ⟨_, rfl⟩
  have HN := Lib.hid hn
  rw [hn] at HV ⊢
  clear hv hk hn
  go_enter Tryd.func5, Tryd.ntmps5
  go_wp2_with fail
  refine (speaks05 _).mono ?_
  rintro e w1 ⟨rfl, hc1⟩
  cases d1 : decide ((n : Int) < 1) with
  | true =>
    go_wp2_with fail
    go_ret
    exact ⟨rfl, hc1.below⟩
  | false =>
    have hn1 : 1 ≤ n := by have := of_decide_eq_false d1; omega
    cases d60 : decide ((60 : Int) < (n : Int)) with
    | true =>
      go_wp2_with fail
      go_ret
      exact ⟨rfl, hc1.below⟩
    | false =>
      have hn60 : n ≤ 60 := by have := of_decide_eq_false d60; omega
      go_wp2_with fail
      refine (may_law05 w1 (.slice A n cp) xs (HV.out.keep hc1)).mono ?_
      rintro e w2 ⟨rfl, hc2⟩
      have hc3 := hc1.seq hc2
      clear hc1 hc2
      cases hm : mayL xs with
      | false =>
        rw [← mayN_no hm]
        go_wp2_with fail
        go_ret
        exact ⟨rfl, hc3.below⟩
      | true =>
        rw [← mayN_yes hm]
        have H64 := Lib.hid (may_keys5 hm)
        clear hm
        have hnz : ((n : Int) == 0) = false := by rw [beq_eq_false_iff_ne]; omega
        go_wp2_with fail
        obtain ⟨k, hk⟩ : ∃ k, a % n = k := ⟨_, rfl⟩
        have hkn : k < n := by rw [← hk]; exact Nat.mod_lt _ (by omega)
        rw [show (a : Int) % (n : Int) = ((k : Nat) : Int) from by omega]
        clear hk
        obtain ⟨ad, rfl, hx0, hx1, hx2⟩ := (HV.out.keep hc3).at.2.2 k (by rw [HN.out]; exact hkn)
        obtain ⟨x, hx⟩ : ∃ x, xs.getD k opZero = x := ⟨_, rfl⟩
        rw [hx] at hx0 hx1 hx2
        have HX := Lib.hid hx
        obtain ⟨xw, xk, xv⟩ := x
        dsimp only at hx0 hx1 hx2
        clear hx hx0
        refine wp_region_last (r6 w2 ad n cp k xk xv) (fun _ u => Ch nob w2 u) (fun _ => e6 w2) 12 (fun a u => ∃ g, a.tmps[6]? = some (.pointer (some ⟨g, 0, none⟩)) ∧ w2.heap.size ≤ g ∧ Blk u g #[.bool false, .int .i64 xk, .int .i64 xv] 33 ∧ Ch nob w2 u) (by decide) ?_ (by kernel_rfl) (by kernel_rfl) (by rfl) (by kernel_rfl) (fun i j v u u' _ hr he => r6_stable _ _ _ _ _ _ _ i v u u' hr he) (fun i j u u' _ h he => he.1 h) (fun i => (Ch.refl nob w2).drew) ?_ ?_ ?_
        · intro o ho i hi hne
          cases ho
          match i, hi with
          | 0, _ => exact ⟨⟨0, .phase⟩, by simp, rfl, rfl⟩
          | 1, _ => exact ⟨⟨1, .phase⟩, by simp, rfl, rfl⟩
          | 2, _ => exact ⟨⟨2, .phase⟩, by simp, rfl, rfl⟩
          | 3, _ => exact ⟨⟨3, .phase⟩, by simp, rfl, rfl⟩
          | 4, _ => exact ⟨⟨4, .phase⟩, by simp, rfl, rfl⟩
          | 5, _ => exact ⟨⟨5, .phase⟩, by simp, rfl, rfl⟩
          | 6, _ => exact ⟨⟨6, .phase⟩, by simp, rfl, rfl⟩
          | 7, _ => exact ⟨⟨7, .phase⟩, by simp, rfl, rfl⟩
          | 8, _ => exact ⟨⟨8, .phase⟩, by simp, rfl, rfl⟩
          | 9, _ => exact ⟨⟨9, .phase⟩, by simp, rfl, rfl⟩
          | 10, _ => exact ⟨⟨10, .phase⟩, by simp, rfl, rfl⟩
          | 11, _ => exact ⟨⟨11, .phase⟩, by simp, rfl, rfl⟩
          | 12, _ => exact absurd rfl hne
          | i + 13, hi => exact absurd hi (by simp)
        · intro i o hne hi a wq hcq hk K hK
          have ht0 : a.tmps[0]? = some (.slice (some ad) n cp) := (hk.old 0 (by decide +kernel)).trans rfl
          have ht5 : a.tmps[5]? = some (.int .i64 k) := (hk.old 5 (by decide +kernel)).trans rfl
          have hy1 := cell_keep5 hx1 hcq
          have hy2 := cell_keep5 hx2 hcq
          have hkn' : (k : Int) < (n : Int) := by omega
          match i, hi with
          | 0, hi | 5, hi =>
            cases hi
            exact yield_one (v := .slice (some ad) n cp) (w' := wq) rfl (by go_simp) (hK _ _ rfl (e6_nob (Ch.refl _ _)))
          | 1, hi | 6, hi =>
            cases hi
            exact yield_one (v := .int .i64 k) (w' := wq) rfl (by go_simp) (hK _ _ rfl (e6_nob (Ch.refl _ _)))
          | 2, hi =>
            cases hi
            obtain ⟨v1, h1, h2⟩ := hk.val ⟨0, .data⟩ (by simp) rfl _ 30 rfl rfl
            obtain ⟨v2, h3, h4⟩ := hk.val ⟨1, .data⟩ (by simp) rfl _ 31 rfl rfl
            rw [show v1 = .slice (some ad) n cp from h2] at h1
            rw [show v2 = .int .i64 k from h4] at h3
            exact yield_one (v := .pointer (some (ad.add (k * 3)))) (w' := wq) rfl (by go_simp) (hK _ _ rfl (e6_nob (Ch.refl _ _)))
          | 7, hi =>
            cases hi
            obtain ⟨v1, h1, h2⟩ := hk.val ⟨5, .data⟩ (by simp) rfl _ 35 rfl rfl
            obtain ⟨v2, h3, h4⟩ := hk.val ⟨6, .data⟩ (by simp) rfl _ 36 rfl rfl
            rw [show v1 = .slice (some ad) n cp from h2] at h1
            rw [show v2 = .int .i64 k from h4] at h3
            exact yield_one (v := .pointer (some (ad.add (k * 3)))) (w' := wq) rfl (by go_simp) (hK _ _ rfl (e6_nob (Ch.refl _ _)))
          | 3, hi =>
            cases hi
            obtain ⟨v1, h1, h2⟩ := hk.val ⟨2, .data⟩ (by simp) rfl _ 32 rfl rfl
            rw [show v1 = .pointer (some (ad.add (k * 3))) from h2] at h1
            exact yield_one (v := .pointer (some ⟨(ad.add (k * 3)).block, (ad.add (k * 3)).off + 1, none⟩)) (w' := wq) rfl (by go_simp) (hK _ _ rfl (e6_nob (Ch.refl _ _)))
          | 8, hi =>
            cases hi
            obtain ⟨v1, h1, h2⟩ := hk.val ⟨7, .data⟩ (by simp) rfl _ 37 rfl rfl
            rw [show v1 = .pointer (some (ad.add (k * 3))) from h2] at h1
            exact yield_one (v := .pointer (some ⟨(ad.add (k * 3)).block, (ad.add (k * 3)).off + 2, none⟩)) (w' := wq) rfl (by go_simp) (hK _ _ rfl (e6_nob (Ch.refl _ _)))
          | 4, hi =>
            cases hi
            obtain ⟨v1, h1, h2⟩ := hk.val ⟨3, .data⟩ (by simp) rfl _ 33 rfl rfl
            rw [show v1 = .pointer (some ⟨(ad.add (k * 3)).block, (ad.add (k * 3)).off + 1, none⟩) from h2] at h1
            exact yield_one (v := .int .i64 xk) (w' := wq) rfl (by go_simp) (hK _ _ rfl (e6_nob (Ch.refl _ _)))
          | 9, hi =>
            cases hi
            obtain ⟨v1, h1, h2⟩ := hk.val ⟨8, .data⟩ (by simp) rfl _ 38 rfl rfl
            rw [show v1 = .pointer (some ⟨(ad.add (k * 3)).block, (ad.add (k * 3)).off + 2, none⟩) from h2] at h1
            exact yield_one (v := .int .i64 xv) (w' := wq) rfl (by go_simp) (hK _ _ rfl (e6_nob (Ch.refl _ _)))
          | 10, hi =>
            cases hi
            obtain ⟨v1, h1, h2⟩ := hk.val ⟨4, .data⟩ (by simp) rfl _ 34 rfl rfl
            obtain ⟨v2, h3, h4⟩ := hk.val ⟨9, .data⟩ (by simp) rfl _ 39 rfl rfl
            rw [show v1 = .int .i64 xk from h2] at h1
            rw [show v2 = .int .i64 xv from h4] at h3
            refine yield_call (f := 19) (vs := #[.int .i64 xk, .int .i64 xv]) rfl (by go_simp) ?_
            refine (op_read xk xv wq).mono ?_
            rintro e w' ⟨rfl, hc⟩
            exact ⟨_, rfl, hK _ _ rfl (e6_nob hc)⟩
          | 11, hi =>
            cases hi
            refine yield_one (v := .pointer (some ⟨wq.heap.size, 0, none⟩)) (w' := wq.alloc (.cells #[.bool false, .int .i64 0, .int .i64 0] 33)) rfl (by go_simp) (hK _ _ ⟨_, rfl, hcq.size, _, _, _, Blk.new _ _ _⟩ (e6_nob ((Ch.refl _ _).alloc _)))
          | 12, hi => exact absurd rfl hne
          | i + 13, hi => simp at hi
        · intro o ho a wq hcq hk K hK
          cases ho
          obtain ⟨v1, h1, g, h2, h3, x, y, z, hb⟩ := hk.val ⟨11, .data⟩ (by simp) rfl _ 6 rfl rfl
          obtain ⟨v2, h4, h5⟩ := hk.val ⟨10, .data⟩ (by simp) rfl _ 40 rfl rfl
          rw [h2] at h1
          rw [show v2 = .agg #[.bool false, .int .i64 xk, .int .i64 xv] from h5] at h4
          have b1 := hb.set 0 (.bool false)
          have b2 := b1.set 1 (.int .i64 xk)
          have b3 := b2.set 2 (.int .i64 xv)
          have hb9 : Blk (wq.setCells g 0 [.bool false, .int .i64 xk, .int .i64 xv]) g #[.bool false, .int .i64 xk, .int .i64 xv] 33 := by
            have e : (((#[x, y, z] : Array Value).setIfInBounds 0 (.bool false)).setIfInBounds 1 (.int .i64 xk)).setIfInBounds 2 (.int .i64 xv) = #[.bool false, .int .i64 xk, .int .i64 xv] := by simp
            rw [e] at b3
            exact b3
          have hg : Ch (· = g) wq (wq.setCells g 0 [.bool false, .int .i64 xk, .int .i64 xv]) := (((Ch.refl (· = g) wq).setCell ⟨g, 0, none⟩ _ (fun _ => rfl)).setCell ⟨g, 1, none⟩ _ (fun _ => rfl)).setCell ⟨g, 2, none⟩ _ (fun _ => rfl)
          have hch : Ch nob w2 (wq.setCells g 0 [.bool false, .int .i64 xk, .int .i64 xv]) := hcq.fresh hg h3
          have ht : wq.there g 0 3 := by
            intro i hi
            match i, hi with
            | 0, _ => exact ⟨by rw [hb.cell (i := 0) rfl]; rfl, hb.free 0⟩
            | 1, _ => exact ⟨by rw [hb.cell (i := 1) rfl]; rfl, hb.free 1⟩
            | 2, _ => exact ⟨by rw [hb.cell (i := 2) rfl]; rfl, hb.free 2⟩
          refine wpList_store_mid rfl _ (.tmp 6) (.tmp 40) rfl g 0 #[.bool false, .int .i64 xk, .int .i64 xv] (eval_slot h1) (eval_slot h4) ht (by kernel_rfl) (by simp [Value.oneCell']) ?_
          refine hK undef _ trivial ?_ ⟨g, ?_, h3, hb9, hch⟩
          · refine ⟨fun _ => hch, fun g2 x y z hb2 => ?_⟩
            by_cases hgg : g2 = g
            · subst hgg
              exact ⟨_, _, _, hb9⟩
            · exact ⟨x, y, z, hb2.ch hg hgg⟩
          · exact h1
        · intro vals w6 hv6 ⟨g, hg, hg2, hb6, hc6⟩
          have e11 : vals 11 = .pointer (some ⟨g, 0, none⟩) := by
            simp only [putAll, Act.put, List.setIfInBounds_toArray, List.set_cons_succ, List.set_cons_zero] at hg
            exact Option.some.inj hg
          simp only [putAll, Act.put, List.setIfInBounds_toArray, List.set_cons_succ, List.set_cons_zero]
          rw [e11]
          clear hg e11
          have hc7 := hc3.seq hc6
          have HO6 := Lib.hid (HV.out.keep hc7)
          have HB6 := Lib.hid hb6
          have hl := HV.out.at.2.1
          rw [HN.out] at hl
          clear hc3 hc6 hb6
          go_wp2_with fail
          refine wp_region_led (r7 w6 ad n cp k xk xv xs) (fun _ u => Ch nob w6 u) (by kernel_rfl) (by kernel_rfl) (by rfl) (by kernel_rfl) (Ch.refl _ _).drew ?_ ?_
          · intro i o hi L a wq hcq hk K hK
            have ht0 : a.tmps[0]? = some (.slice (some ad) n cp) := (hk.old 0 (by decide +kernel)).trans rfl
            have ht5 : a.tmps[5]? = some (.int .i64 k) := (hk.old 5 (by decide +kernel)).trans rfl
            have ht6 : a.tmps[6]? = some (.pointer (some ⟨g, 0, none⟩)) := (hk.old 6 (by decide +kernel)).trans rfl
            have hkI : (k : Int) < n := by omega
            have hwr : IntKind.i64.wrap ((k : Int) + 1) = (k : Int) + 1 := IntWalk.i64_in _ (by omega)
            have hk0 : (0 : Int) ≤ (k : Int) + 1 := by omega
            have hkc : (k : Int) + 1 ≤ (cp : Int) := by omega
            have hkn2 : (k : Int) + 1 ≤ (n : Int) := by omega
            have hnc : (n : Int) ≤ (cp : Int) := by omega
            have htn : ((k : Int) + 1).toNat = k + 1 := by omega
            have hbq := HB6.out.ch hcq (fun h => h)
            have y0 := hbq.cell (i := 0) (v := .bool false) rfl
            have y1 := hbq.cell (i := 1) (v := .int .i64 xk) rfl
            have y2 := hbq.cell (i := 2) (v := .int .i64 xv) rfl
            have Keep : ∀ v w', Ch nob wq w' → r7 w6 ad n cp k xk xv xs (mark L i) i v w' → K (a.put o.dst v) w' := fun v w' hc hr => hK v w' (hcq.seq hc) hr (fun j u _ _ h => r7_keep h hc)
            match i, hi with
            | 0, hi =>
              cases hi
              refine yield_one (v := .slice (some ⟨wq.heap.size, 0, none⟩) 0 0) (w' := wq.alloc (.cells #[] 33)) rfl (by go_simp) ?_
              exact Keep _ _ ((Ch.refl _ _).alloc _) (fun _ => ⟨_, rfl, Blk.new _ _ _, OwnO.made _ _ _ hcq.size⟩)
            | 1, hi | 9, hi =>
              cases hi
              exact yield_one (v := .slice (some ad) n cp) (w' := wq) rfl (by go_simp) (Keep _ _ (Ch.refl _ _) rfl)
            | 2, hi | 10, hi =>
              cases hi
              exact yield_one (v := .int .i64 k) (w' := wq) rfl (by go_simp) (Keep _ _ (Ch.refl _ _) rfl)
            | 3, hi =>
              cases hi
              obtain ⟨v1, h1, h2⟩ := hk.val ⟨2, .data⟩ (by simp) rfl _ 43 rfl rfl
              rw [show v1 = .int .i64 k from h2] at h1
              exact yield_one (v := .int .i64 (k + 1 : Nat)) (w' := wq) rfl (by go_simp) (Keep _ _ (Ch.refl _ _) rfl)
            | 11, hi =>
              cases hi
              obtain ⟨v1, h1, h2⟩ := hk.val ⟨10, .data⟩ (by simp) rfl _ 51 rfl rfl
              rw [show v1 = .int .i64 k from h2] at h1
              exact yield_one (v := .int .i64 (k + 1 : Nat)) (w' := wq) rfl (by go_simp) (Keep _ _ (Ch.refl _ _) rfl)
            | 4, hi =>
              cases hi
              obtain ⟨v1, h1, h2⟩ := hk.val ⟨1, .data⟩ (by simp) rfl _ 42 rfl rfl
              obtain ⟨v2, h3, h4⟩ := hk.val ⟨3, .data⟩ (by simp) rfl _ 44 rfl rfl
              rw [show v1 = .slice (some ad) n cp from h2] at h1
              rw [show v2 = .int .i64 (k + 1 : Nat) from h4] at h3
              exact yield_one (v := .slice (some ad) (k + 1) cp) (w' := wq) rfl (by go_simp) (Keep _ _ (Ch.refl _ _) rfl)
            | 6, hi =>
              cases hi
              exact yield_one (v := .agg #[.bool false, .int .i64 xk, .int .i64 xv]) (w' := wq) rfl (by go_simp) (Keep _ _ (Ch.refl _ _) rfl)
            | 7, hi =>
              cases hi
              obtain ⟨v1, h1, h2⟩ := hk.val ⟨6, .data⟩ (by simp) rfl _ 47 rfl rfl
              rw [show v1 = .agg #[.bool false, .int .i64 xk, .int .i64 xv] from h2] at h1
              exact yield_one (v := .slice (some ⟨wq.heap.size, 0, none⟩) 1 1) (w' := wq.alloc (.cells #[.bool false, .int .i64 xk, .int .i64 xv] 33)) rfl (by go_simp) (Keep _ _ ((Ch.refl _ _).alloc _) (fun _ => ⟨_, rfl, Blk.new _ _ _⟩))
            | 12, hi =>
              cases hi
              obtain ⟨v1, h1, h2⟩ := hk.val ⟨9, .data⟩ (by simp) rfl _ 50 rfl rfl
              obtain ⟨v2, h3, h4⟩ := hk.val ⟨11, .data⟩ (by simp) rfl _ 52 rfl rfl
              rw [show v1 = .slice (some ad) n cp from h2] at h1
              rw [show v2 = .int .i64 (k + 1 : Nat) from h4] at h3
              refine yield_one (v := .slice (if cp = k + 1 then some ad else some (ad.add ((k + 1) * 3))) (n - (k + 1)) (cp - (k + 1))) (w' := wq) rfl (by go_simp) (Keep _ _ (Ch.refl _ _) ?_)
              exact HO6.out.dropOf (k + 1) _ _ (by omega) rfl (by omega) _ (fun h => by rw [if_neg (by omega)])
            | 5, hi =>
              cases hi
              obtain ⟨v1, h1, h2⟩ := hk.val ⟨0, .data⟩ (by simp) rfl _ 41 rfl rfl
              obtain ⟨v2, h3, h4⟩ := hk.val ⟨4, .data⟩ (by simp) rfl _ 45 rfl rfl
              obtain ⟨g0, e0, hb0, ho0⟩ := h2 hk.new
              rw [show v2 = .slice (some ad) (k + 1) cp from h4] at h3
              refine wpList_append_opl rfl (.tmp 41) (.tmp 45) 22 33 rfl elem_op w6.heap.size v1 [] (eval_slot h1) ho0 _ (xs.take (k + 1)) (eval_slot h3) ((HO6.out.keep hcq).take (k + 1) cp (by omega) (by omega)) (by simp) (by rw [List.length_take]; omega) hcq.size ?_
              intro v' w' ho' hg'
              refine hK v' w' (hcq.grown_own hg' (fun b hb => (ho0.ge b hb).1)) (fun _ => ho') (fun j u hji hLj hr => ?_)
              have hL8 : L 8 = false := by
                cases h : L 8 with
                | false => rfl
                | true => have := hk.led 8 _ rfl h ⟨5, .data⟩ (by simp) rfl; rw [hk.new] at this; cases this
              have hL13 : L 13 = false := by
                cases h : L 13 with
                | false => rfl
                | true => have := hk.led 13 _ rfl h ⟨8, .data⟩ (by simp) rfl; rw [show L 8 = false from hL8] at this; cases this
              have hL14 : L 14 = false := by
                cases h : L 14 with
                | false => rfl
                | true => have := hk.led 14 _ rfl h ⟨13, .data⟩ (by simp) rfl; rw [show L 13 = false from hL13] at this; cases this
              refine r7_grow hr hg' (fun h => by rw [mark_same] at h; cases h) (.inl rfl) (fun h _ => hji h) (fun g2 _ hb2 he => ?_) (fun h => by rw [h, hL8] at hLj; cases hLj) (fun h => ?_)
              · rw [e0] at he
                have : g0 = g2 := by simpa [Value.ownBlock] using he
                subst this
                have := (show _ = _ from hb0).symm.trans hb2
                simp at this
              · rcases h with h | h
                · rw [h, hL13] at hLj; cases hLj
                · rw [h, hL14] at hLj; cases hLj
            | 8, hi =>
              cases hi
              obtain ⟨v1, h1, h2⟩ := hk.val ⟨5, .data⟩ (by simp) rfl _ 46 rfl rfl
              obtain ⟨v2, h3, h4⟩ := hk.val ⟨7, .data⟩ (by simp) rfl _ 48 rfl rfl
              have ho0 := h2 hk.new
              obtain ⟨g1, e1, hb1⟩ := h4 hk.new
              rw [e1] at h3
              refine wpList_append_op rfl (.tmp 46) (.tmp 48) 22 33 rfl elem_op w6.heap.size v1 _ (eval_slot h1) ho0 g1 ⟨false, xk, xv⟩ 33 (eval_slot h3) hb1 (by simp; omega) hcq.size ?_
              intro v' w' ho' hg'
              refine hK v' w' (hcq.grown_own hg' (fun b hb => (ho0.ge b hb).1)) (fun _ => ho') (fun j u hji hLj hr => ?_)
              have hL5 : L 5 = true := hk.wait ⟨5, .data⟩ (by simp) rfl
              have hL13 : L 13 = false := by
                cases h : L 13 with
                | false => rfl
                | true => have := hk.led 13 _ rfl h ⟨8, .data⟩ (by simp) rfl; rw [hk.new] at this; cases this
              have hL14 : L 14 = false := by
                cases h : L 14 with
                | false => rfl
                | true => have := hk.led 14 _ rfl h ⟨13, .data⟩ (by simp) rfl; rw [show L 13 = false from hL13] at this; cases this
              refine r7_grow hr hg' (fun h => by rw [mark_ne (by decide), hL5] at h; cases h) (.inr (mark_same _ _)) (fun _ h => by cases h) (fun _ h => by cases h) (fun h => (hji h).elim) (fun h => ?_)
              rcases h with h | h
              · rw [h, hL13] at hLj; cases hLj
              · rw [h, hL14] at hLj; cases hLj
            | 13, hi =>
              cases hi
              obtain ⟨v1, h1, h2⟩ := hk.val ⟨8, .data⟩ (by simp) rfl _ 49 rfl rfl
              obtain ⟨v2, h3, h4⟩ := hk.val ⟨12, .data⟩ (by simp) rfl _ 53 rfl rfl
              have ho0 := h2 hk.new
              have ho4 : Opl w6 v2 (xs.drop (k + 1)) := h4
              refine wpList_append_opl rfl (.tmp 49) (.tmp 53) 22 33 rfl elem_op w6.heap.size v1 _ (eval_slot h1) ho0 v2 (xs.drop (k + 1)) (eval_slot h3) (ho4.keep hcq) (by have := HN.out; simp; omega) (by have := HN.out; rw [List.length_drop]; omega) hcq.size ?_
              intro v' w' ho' hg'
              refine hK v' w' (hcq.grown_own hg' (fun b hb => (ho0.ge b hb).1)) ho' (fun j u hji hLj hr => ?_)
              have hL8 : L 8 = true := hk.wait ⟨8, .data⟩ (by simp) rfl
              have hL5 : L 5 = true := hk.led 8 _ rfl hL8 ⟨5, .data⟩ (by simp) rfl
              have hL14 : L 14 = false := by
                cases h : L 14 with
                | false => rfl
                | true => have := hk.led 14 _ rfl h ⟨13, .data⟩ (by simp) rfl; rw [hk.new] at this; cases this
              refine r7_grow hr hg' (fun h => by rw [mark_ne (by decide), hL5] at h; cases h) (.inr (by rw [mark_ne (by decide), hL8])) (fun _ h => by cases h) (fun _ h => by cases h) (fun _ => mark_same _ _) (fun h => ?_)
              rcases h with h | h
              · exact hji h
              · rw [h, hL14] at hLj; cases hLj
            | 14, hi =>
              cases hi
              obtain ⟨v1, h1, h2⟩ := hk.val ⟨13, .data⟩ (by simp) rfl _ 54 rfl rfl
              have e1 := eval_slot h1
              refine yield_one (v := v1) (w' := wq) rfl ?_ (Keep _ _ (Ch.refl _ _) h2)
              simp only [execOp, e1]
              rfl
            | i + 15, hi => simp at hi
          · intro L vals7 w7 hL hcw hv7
            have hown : OwnO w7 w6.heap.size 33 (vals7 14) ((([] ++ xs.take (k + 1)) ++ [⟨false, xk, xv⟩]) ++ xs.drop (k + 1)) := hv7 14 _ 7 rfl rfl
            obtain ⟨zs, hz⟩ : ∃ zs, (([] ++ xs.take (k + 1)) ++ [(⟨false, xk, xv⟩ : Opn)]) ++ xs.drop (k + 1) = zs := ⟨_, rfl⟩
            have hins : Ins xs zs k := by
              have h9 := ins_of (xs := xs) (k := k) (by rw [HN.out]; exact hkn)
              rw [HX.out] at h9
              rw [← hz]; exact h9
            rw [hz] at hown
            clear hv7 hL
            simp only [putAll, Act.put, List.setIfInBounds_toArray, List.set_cons_succ, List.set_cons_zero]
            have HZ := Lib.hid hown.opl
            have HI := Lib.hid hins
            have hc8 := hc7.seq hcw
            obtain ⟨zv, hzv⟩ : ∃ zv, vals7 14 = zv := ⟨_, rfl⟩
            rw [hzv] at HZ ⊢
            clear hown hins hcw hz hzv
            obtain ⟨A7, c7, rfl⟩ := HZ.out.shape
            go_wp2_with fail
            have hba := (Blk.new w7 #[.int .i64 0, .int .i64 0, .int .i64 0, .slice (some ad) n cp] 26).alloc (.cells #[.int .i64 0, .int .i64 0, .int .i64 0, .slice A7 zs.length c7] 26)
            have hbb := Blk.new (w7.alloc (.cells #[.int .i64 0, .int .i64 0, .int .i64 0, .slice (some ad) n cp] 26)) #[.int .i64 0, .int .i64 0, .int .i64 0, .slice A7 zs.length c7] 26
            have hc9 := ((Ch.refl nob w7).alloc (.cells #[.int .i64 0, .int .i64 0, .int .i64 0, .slice (some ad) n cp] 26)).alloc (.cells #[.int .i64 0, .int .i64 0, .int .i64 0, .slice A7 zs.length c7] 26)
            obtain ⟨w9, hw9⟩ : ∃ u, (w7.alloc (.cells #[.int .i64 0, .int .i64 0, .int .i64 0, .slice (some ad) n cp] 26)).alloc (.cells #[.int .i64 0, .int .i64 0, .int .i64 0, .slice A7 zs.length c7] 26) = u := ⟨_, rfl⟩
            have hbb2 : Blk w9 (w7.heap.size + 1) #[.int .i64 0, .int .i64 0, .int .i64 0, .slice A7 zs.length c7] 26 := by rw [← hw9]; simpa using hbb
            rw [hw9] at hba hc9 ⊢
            obtain ⟨g1, hg1⟩ : ∃ g, w7.heap.size = g := ⟨_, rfl⟩
            rw [hg1] at hba hbb2 ⊢
            obtain ⟨g3, hg3⟩ : ∃ g, g1 + 1 = g := ⟨_, rfl⟩
            rw [hg3] at hbb2 ⊢
            have HA := Lib.hid hba
            have HB := Lib.hid hbb2
            have hca := hc8.seq hc9
            have HXa := Lib.hid (HV.out.keep hca)
            have HZa := Lib.hid (HZ.out.keep hc9)
            have HKz : Hid (KeysOk zs) := Lib.hid (fun i hi => ins_keys (F := fun q => (Lit.int .i64 q).wf = true) HI.out HK.out i hi)
            have H6z : Hid (Keys64 zs) := Lib.hid (fun i hi => ins_keys (F := fun q => 0 ≤ q ∧ q < 64) HI.out H64.out i hi)
            have hlx : xs.length ≤ 1000000 := by have := HN.out; omega
            have hlz : zs.length ≤ 1000000 := by have := HN.out; have := HI.out.len; omega
            have er := ins_reads HI.out 64
            have ew := ins_writes HI.out 64
            have es := ins_steady HI.out
            have RA := Lib.hid (fun (u : World) (hc : Ch nob w9 u) => reads64 u _ xs 0 0 0 (HXa.out.keep hc) HK.out H64.out hlx w9.heap.size hc.size)
            have RB := Lib.hid (fun (u : World) (hc : Ch nob w9 u) => reads64 u _ zs 0 0 0 (HZa.out.keep hc) HKz.out H6z.out hlz w9.heap.size hc.size)
            have WA := Lib.hid (fun (u : World) (hc : Ch nob w9 u) => writes64 u _ xs 0 0 0 (HXa.out.keep hc) HK.out H64.out hlx w9.heap.size hc.size)
            have WB := Lib.hid (fun (u : World) (hc : Ch nob w9 u) => writes64 u _ zs 0 0 0 (HZa.out.keep hc) HKz.out H6z.out hlz w9.heap.size hc.size)
            have SA := Lib.hid (fun (u : World) (hc : Ch nob w9 u) => steady u _ xs 0 0 0 (HXa.out.keep hc) HK.out hlx)
            have SB := Lib.hid (fun (u : World) (hc : Ch nob w9 u) => steady u _ zs 0 0 0 (HZa.out.keep hc) HKz.out hlz)
            rw [er] at RB
            rw [ew] at WB
            rw [es] at SB
            obtain ⟨rs, hrs⟩ : ∃ r, readsR xs 64 = r := ⟨_, rfl⟩
            obtain ⟨ws, hws⟩ : ∃ r, writesR xs 64 = r := ⟨_, rfl⟩
            obtain ⟨st, hst⟩ : ∃ r, steadyB xs = r := ⟨_, rfl⟩
            rw [hrs] at RA RB
            rw [hws] at WA WB
            rw [hst] at SA SB
            clear hbb hw9 hg1 hg3 hc8 hc9 hba hbb2 er ew es hrs hws hst
            refine wp_region_yield (r9 w9.heap.size (.agg #[.int .i64 0, .int .i64 0, .int .i64 0, .slice (some ad) n cp]) (.agg #[.int .i64 0, .int .i64 0, .int .i64 0, .slice A7 zs.length c7]) rs ws st) (by kernel_rfl) (by kernel_rfl) (by rfl) (by kernel_rfl) (r9_stable _ _ _ _ _ _) ?_ ?_
            · intro i o hi a wq hk K hK
              have ht8 : a.tmps[8]? = some (.pointer (some ⟨g1, 0, none⟩)) := (hk.old 8 (by decide +kernel)).trans rfl
              have ht9 : a.tmps[9]? = some (.pointer (some ⟨g3, 0, none⟩)) := (hk.old 9 (by decide +kernel)).trans rfl
              have hqa := HA.out.ch hk.ch (fun h => h)
              have hqb := HB.out.ch hk.ch (fun h => h)
              have y0 := hqa.cell (i := 0) (v := .int .i64 0) rfl
              have y1 := hqa.cell (i := 1) (v := .int .i64 0) rfl
              have y2 := hqa.cell (i := 2) (v := .int .i64 0) rfl
              have y3 := hqa.cell (i := 3) (v := .slice (some ad) n cp) rfl
              have z0 := hqb.cell (i := 0) (v := .int .i64 0) rfl
              have z1 := hqb.cell (i := 1) (v := .int .i64 0) rfl
              have z2 := hqb.cell (i := 2) (v := .int .i64 0) rfl
              have z3 := hqb.cell (i := 3) (v := .slice A7 zs.length c7) rfl
              match i, hi with
              | 0, hi =>
                cases hi
                exact yield_one (v := (.agg #[.int .i64 0, .int .i64 0, .int .i64 0, .slice (some ad) n cp])) (w' := wq) rfl (by go_simp) (hK _ _ rfl (Ch.refl _ _))
              | 1, hi =>
                cases hi
                obtain ⟨v1, h1, h2⟩ := hk.val ⟨0, .data⟩ (by simp) rfl _ 59 rfl rfl
                rw [show v1 = .agg #[.int .i64 0, .int .i64 0, .int .i64 0, .slice (some ad) n cp] from h2] at h1
                refine yield_call (f := 8) (vs := #[.agg #[.int .i64 0, .int .i64 0, .int .i64 0, .slice (some ad) n cp]]) rfl (by go_simp) ?_
                refine (RA.out wq hk.ch).mono ?_
                rintro e w' ⟨u, rfl, ho, hc⟩
                exact ⟨u, rfl, hK _ _ ho hc⟩
              | 2, hi =>
                cases hi
                exact yield_one (v := (.agg #[.int .i64 0, .int .i64 0, .int .i64 0, .slice A7 zs.length c7])) (w' := wq) rfl (by go_simp) (hK _ _ rfl (Ch.refl _ _))
              | 3, hi =>
                cases hi
                obtain ⟨v1, h1, h2⟩ := hk.val ⟨2, .data⟩ (by simp) rfl _ 61 rfl rfl
                rw [show v1 = .agg #[.int .i64 0, .int .i64 0, .int .i64 0, .slice A7 zs.length c7] from h2] at h1
                refine yield_call (f := 8) (vs := #[.agg #[.int .i64 0, .int .i64 0, .int .i64 0, .slice A7 zs.length c7]]) rfl (by go_simp) ?_
                refine (RB.out wq hk.ch).mono ?_
                rintro e w' ⟨u, rfl, ho, hc⟩
                exact ⟨u, rfl, hK _ _ ho hc⟩
              | 4, hi =>
                cases hi
                obtain ⟨v1, h1, h2⟩ := hk.val ⟨1, .data⟩ (by simp) rfl _ 60 rfl rfl
                obtain ⟨v2, h3, h4⟩ := hk.val ⟨3, .data⟩ (by simp) rfl _ 62 rfl rfl
                have e1 := eval_slot h1
                have e2 := eval_slot h3
                refine yield_call (f := 12) (vs := #[v1, v2]) rfl (by simp only [execOp, Sem.run_bind, Sem.run_pure, Result.andThen_ok, resolve, List.map_toArray, List.map_cons, List.map_nil, e1, e2]; rfl) ?_
                refine (same_law05 wq v1 v2 _ (OwnO.opl h2) (OwnO.opl h4)).mono ?_
                rintro e w' ⟨rfl, hc⟩
                exact ⟨_, rfl, hK _ _ rfl hc⟩
              | 5, hi =>
                cases hi
                obtain ⟨u0, p0, q0⟩ := hk.val ⟨4, .data⟩ (by simp) rfl _ 63 rfl rfl
                rw [show u0 = .int .i64 1 from q0] at p0
                exact yield_one (v := .bool true) (w' := wq) rfl (by go_simp) (hK _ _ rfl (Ch.refl _ _))
              | 6, hi =>
                cases hi
                obtain ⟨u0, p0, q0⟩ := hk.val ⟨5, .data⟩ (by simp) rfl _ 64 rfl rfl
                rw [show u0 = .bool true from q0] at p0
                exact yield_one (v := .bool true) (w' := wq) rfl (by go_simp) (hK _ _ rfl (Ch.refl _ _))
              | 7, hi =>
                cases hi
                obtain ⟨vg, hg1, hg2⟩ := hk.val ⟨6, .guard⟩ (by simp) rfl _ 65 rfl rfl
                rw [show vg = .bool true from hg2] at hg1
                exact yield_one (v := (.agg #[.int .i64 0, .int .i64 0, .int .i64 0, .slice (some ad) n cp])) (w' := wq) (by simp [Region.wanted, yielded, hg1]) (by go_simp) (hK _ _ rfl (Ch.refl _ _))
              | 8, hi =>
                cases hi
                obtain ⟨vg, hg1, hg2⟩ := hk.val ⟨6, .guard⟩ (by simp) rfl _ 65 rfl rfl
                rw [show vg = .bool true from hg2] at hg1
                obtain ⟨v1, h1, h2⟩ := hk.val ⟨7, .data⟩ (by simp) rfl _ 66 rfl rfl
                rw [show v1 = .agg #[.int .i64 0, .int .i64 0, .int .i64 0, .slice (some ad) n cp] from h2] at h1
                refine yield_call (f := 9) (vs := #[.agg #[.int .i64 0, .int .i64 0, .int .i64 0, .slice (some ad) n cp]]) (by simp [Region.wanted, yielded, hg1]) (by go_simp) ?_
                refine (WA.out wq hk.ch).mono ?_
                rintro e w' ⟨u, rfl, ho, hc⟩
                exact ⟨u, rfl, hK _ _ ho hc⟩
              | 9, hi =>
                cases hi
                obtain ⟨vg, hg1, hg2⟩ := hk.val ⟨6, .guard⟩ (by simp) rfl _ 65 rfl rfl
                rw [show vg = .bool true from hg2] at hg1
                exact yield_one (v := (.agg #[.int .i64 0, .int .i64 0, .int .i64 0, .slice A7 zs.length c7])) (w' := wq) (by simp [Region.wanted, yielded, hg1]) (by go_simp) (hK _ _ rfl (Ch.refl _ _))
              | 10, hi =>
                cases hi
                obtain ⟨vg, hg1, hg2⟩ := hk.val ⟨6, .guard⟩ (by simp) rfl _ 65 rfl rfl
                rw [show vg = .bool true from hg2] at hg1
                obtain ⟨v1, h1, h2⟩ := hk.val ⟨9, .data⟩ (by simp) rfl _ 68 rfl rfl
                rw [show v1 = .agg #[.int .i64 0, .int .i64 0, .int .i64 0, .slice A7 zs.length c7] from h2] at h1
                refine yield_call (f := 9) (vs := #[.agg #[.int .i64 0, .int .i64 0, .int .i64 0, .slice A7 zs.length c7]]) (by simp [Region.wanted, yielded, hg1]) (by go_simp) ?_
                refine (WB.out wq hk.ch).mono ?_
                rintro e w' ⟨u, rfl, ho, hc⟩
                exact ⟨u, rfl, hK _ _ ho hc⟩
              | 11, hi =>
                cases hi
                obtain ⟨vg, hg1, hg2⟩ := hk.val ⟨6, .guard⟩ (by simp) rfl _ 65 rfl rfl
                rw [show vg = .bool true from hg2] at hg1
                obtain ⟨v1, h1, h2⟩ := hk.val ⟨8, .data⟩ (by simp) rfl _ 67 rfl rfl
                obtain ⟨v2, h3, h4⟩ := hk.val ⟨10, .data⟩ (by simp) rfl _ 69 rfl rfl
                have e1 := eval_slot h1
                have e2 := eval_slot h3
                refine yield_call (f := 12) (vs := #[v1, v2]) (by simp [Region.wanted, yielded, hg1]) (by simp only [execOp, Sem.run_bind, Sem.run_pure, Result.andThen_ok, resolve, List.map_toArray, List.map_cons, List.map_nil, e1, e2]; rfl) ?_
                refine (same_law05 wq v1 v2 _ (OwnO.opl h2) (OwnO.opl h4)).mono ?_
                rintro e w' ⟨rfl, hc⟩
                exact ⟨_, rfl, hK _ _ rfl hc⟩
              | 12, hi =>
                cases hi
                obtain ⟨vg, hg1, hg2⟩ := hk.val ⟨6, .guard⟩ (by simp) rfl _ 65 rfl rfl
                rw [show vg = .bool true from hg2] at hg1
                obtain ⟨u0, p0, q0⟩ := hk.val ⟨11, .data⟩ (by simp) rfl _ 70 rfl rfl
                rw [show u0 = .int .i64 1 from q0] at p0
                exact yield_one (v := .bool true) (w' := wq) (by simp [Region.wanted, yielded, hg1]) (by go_simp) (hK _ _ rfl (Ch.refl _ _))
              | 13, hi =>
                cases hi
                obtain ⟨u0, p0, q0⟩ := hk.val ⟨6, .data⟩ (by simp) rfl _ 65 rfl rfl
                rw [show u0 = .bool true from q0] at p0
                obtain ⟨u1, p1, q1⟩ := hk.val ⟨12, .data⟩ (by simp) rfl _ 71 rfl rfl
                rw [show u1 = .bool true from q1] at p1
                exact yield_one (v := .bool true) (w' := wq) rfl (by go_simp) (hK _ _ rfl (Ch.refl _ _))
              | 14, hi =>
                cases hi
                obtain ⟨u0, p0, q0⟩ := hk.val ⟨13, .data⟩ (by simp) rfl _ 72 rfl rfl
                rw [show u0 = .bool true from q0] at p0
                exact yield_one (v := .bool true) (w' := wq) rfl (by go_simp) (hK _ _ rfl (Ch.refl _ _))
              | 15, hi =>
                cases hi
                obtain ⟨vg, hg1, hg2⟩ := hk.val ⟨14, .guard⟩ (by simp) rfl _ 73 rfl rfl
                rw [show vg = .bool true from hg2] at hg1
                exact yield_one (v := (.agg #[.int .i64 0, .int .i64 0, .int .i64 0, .slice (some ad) n cp])) (w' := wq) (by simp [Region.wanted, yielded, hg1]) (by go_simp) (hK _ _ rfl (Ch.refl _ _))
              | 16, hi =>
                cases hi
                obtain ⟨vg, hg1, hg2⟩ := hk.val ⟨14, .guard⟩ (by simp) rfl _ 73 rfl rfl
                rw [show vg = .bool true from hg2] at hg1
                obtain ⟨v1, h1, h2⟩ := hk.val ⟨15, .data⟩ (by simp) rfl _ 74 rfl rfl
                rw [show v1 = .agg #[.int .i64 0, .int .i64 0, .int .i64 0, .slice (some ad) n cp] from h2] at h1
                refine yield_call (f := 10) (vs := #[.agg #[.int .i64 0, .int .i64 0, .int .i64 0, .slice (some ad) n cp]]) (by simp [Region.wanted, yielded, hg1]) (by go_simp) ?_
                refine (SA.out wq hk.ch).mono ?_
                rintro e w' ⟨rfl, hc⟩
                exact ⟨_, rfl, hK _ _ rfl hc⟩
              | 17, hi =>
                cases hi
                obtain ⟨vg, hg1, hg2⟩ := hk.val ⟨14, .guard⟩ (by simp) rfl _ 73 rfl rfl
                rw [show vg = .bool true from hg2] at hg1
                exact yield_one (v := (.agg #[.int .i64 0, .int .i64 0, .int .i64 0, .slice A7 zs.length c7])) (w' := wq) (by simp [Region.wanted, yielded, hg1]) (by go_simp) (hK _ _ rfl (Ch.refl _ _))
              | 18, hi =>
                cases hi
                obtain ⟨vg, hg1, hg2⟩ := hk.val ⟨14, .guard⟩ (by simp) rfl _ 73 rfl rfl
                rw [show vg = .bool true from hg2] at hg1
                obtain ⟨v1, h1, h2⟩ := hk.val ⟨17, .data⟩ (by simp) rfl _ 76 rfl rfl
                rw [show v1 = .agg #[.int .i64 0, .int .i64 0, .int .i64 0, .slice A7 zs.length c7] from h2] at h1
                refine yield_call (f := 10) (vs := #[.agg #[.int .i64 0, .int .i64 0, .int .i64 0, .slice A7 zs.length c7]]) (by simp [Region.wanted, yielded, hg1]) (by go_simp) ?_
                refine (SB.out wq hk.ch).mono ?_
                rintro e w' ⟨rfl, hc⟩
                exact ⟨_, rfl, hK _ _ rfl hc⟩
              | 19, hi =>
                cases hi
                obtain ⟨vg, hg1, hg2⟩ := hk.val ⟨14, .guard⟩ (by simp) rfl _ 73 rfl rfl
                rw [show vg = .bool true from hg2] at hg1
                obtain ⟨u0, p0, q0⟩ := hk.val ⟨16, .data⟩ (by simp) rfl _ 75 rfl rfl
                rw [show u0 = .bool st from q0] at p0
                obtain ⟨u1, p1, q1⟩ := hk.val ⟨18, .data⟩ (by simp) rfl _ 77 rfl rfl
                rw [show u1 = .bool st from q1] at p1
                exact yield_one (v := .bool true) (w' := wq) (by simp [Region.wanted, yielded, hg1]) (by go_simp) (hK _ _ rfl (Ch.refl _ _))
              | 20, hi =>
                cases hi
                obtain ⟨u0, p0, q0⟩ := hk.val ⟨14, .data⟩ (by simp) rfl _ 73 rfl rfl
                rw [show u0 = .bool true from q0] at p0
                obtain ⟨u1, p1, q1⟩ := hk.val ⟨19, .data⟩ (by simp) rfl _ 78 rfl rfl
                rw [show u1 = .bool true from q1] at p1
                exact yield_one (v := .bool true) (w' := wq) rfl (by go_simp) (hK _ _ rfl (Ch.refl _ _))
              | 21, hi =>
                cases hi
                obtain ⟨u0, p0, q0⟩ := hk.val ⟨20, .data⟩ (by simp) rfl _ 79 rfl rfl
                rw [show u0 = .bool true from q0] at p0
                exact yield_one (v := .bool true) (w' := wq) rfl (by go_simp) (hK _ _ rfl (Ch.refl _ _))
              | i + 22, hi => simp at hi
            · intro vals9 wz hv9 hcz
              have hend := hca.seq hcz
              have hlast : vals9 21 = .bool true := hv9 21 _ 4 rfl rfl
              simp only [putAll, Act.put, List.setIfInBounds_toArray, List.set_cons_succ, List.set_cons_zero]
              rw [hlast]
              go_wp2_with fail
              go_ret
              exact ⟨rfl, hend.below⟩
end Go.Proofs.YtobfanodjdkkoaaDoor
