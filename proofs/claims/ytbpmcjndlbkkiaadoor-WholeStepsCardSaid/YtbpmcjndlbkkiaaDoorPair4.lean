/- The reference's closure over pairs. No condition but each theorem's own. -/
import Derived.Test.YtbpmcjndlbkkiaaDoorPairPure
set_option linter.unusedVariables false
set_option linter.unusedSimpArgs false
namespace Go.Proofs.YtbpmcjndlbkkiaaDoor
open Go.RowKit

/-- What holds of the closure at every turn. -/
structure Part (l out : List IPair) : Prop where
  once : out.Nodup
  has : ∀ x ∈ l, x ∈ out
  grid : ∀ x ∈ out, ∃ a ∈ l, ∃ b ∈ l, x = (a.1, b.2)
  least : ∀ T : IPair → Prop, (∀ x ∈ l, T x) → (∀ a b c, T (a, b) → (b, c) ∈ l → T (a, c)) → ∀ x ∈ out, T x
theorem Part.start (l : List IPair) : Part l (addTo [] l l.length) where
  once := nodup_addTo _ _ _ List.nodup_nil
  has x h := (mem_addTo _ _ _).2 (.inr h)
  grid x h := by
    rcases (mem_addTo _ _ _).1 h with h | h
    · cases h
    · exact ⟨x, h, x, h, rfl⟩
  least T h1 h2 x h := by
    rcases (mem_addTo _ _ _).1 h with h | h
    · cases h
    · exact h1 x h
theorem Part.step {l out : List IPair} (h : Part l out) : Part l (addTo out (thenP out l out.length) (thenP out l out.length).length) where
  once := nodup_addTo _ _ _ h.once
  has x hx := (mem_addTo _ _ _).2 (.inl (h.has x hx))
  grid x hx := by
    rcases (mem_addTo _ _ _).1 hx with hx | hx
    · exact h.grid x hx
    · obtain ⟨p, hp, q, hq, _, rfl⟩ := (mem_thenP _ _ _).1 hx
      obtain ⟨a, ha, b, hb, rfl⟩ := h.grid p hp
      exact ⟨a, ha, q, hq, rfl⟩
  least T h1 h2 x hx := by
    rcases (mem_addTo _ _ _).1 hx with hx | hx
    · exact h.least T h1 h2 x hx
    · obtain ⟨⟨a, b⟩, hp, ⟨c, d⟩, hq, hbc, rfl⟩ := (mem_thenP _ _ _).1 hx
      obtain rfl : b = c := hbc
      exact h2 a b d (h.least T h1 h2 _ hp) hq
theorem addTo_len (out more : List IPair) (k : Nat) : (addTo out more k).length ≤ out.length + k := by
  induction k with
  | zero => simp [addTo]
  | succ k ih =>
    by_cases h : k < more.length
    · rw [addTo_succ out more k h]
      have := putP_len (addTo out more k) (more.getD k (0, 0)).1 (more.getD k (0, 0)).2
      omega
    · have : addTo out more (k + 1) = addTo out more k := by unfold addTo; rw [List.take_of_length_le (by omega), List.take_of_length_le (by omega)]
      rw [this]; omega
theorem grid_len (l m : List IPair) : (l.flatMap fun a => m.map fun b => ((a.1, b.2) : IPair)).length = l.length * m.length := by
  induction l with
  | nil => simp
  | cons a l ih => rw [List.flatMap_cons, List.length_append, ih, List.length_map, List.length_cons, Nat.succ_mul]; omega
theorem Part.len {l out : List IPair} (h : Part l out) : out.length ≤ l.length * l.length := by
  rw [← grid_len l l]
  refine nodup_le _ _ h.once fun x hx => ?_
  obtain ⟨a, ha, b, hb, rfl⟩ := h.grid x hx
  exact List.mem_flatMap.2 ⟨a, ha, List.mem_map.2 ⟨b, hb, rfl⟩⟩
/-- The closure: pairs by one step or more, each once. -/
structure Closed (l out : List IPair) : Prop extends Part l out where
  closed : ∀ x ∈ out, ∀ q ∈ l, x.2 = q.1 → (x.1, q.2) ∈ out
theorem Part.closed {l out : List IPair} (h : Part l out) (hl : (addTo out (thenP out l out.length) (thenP out l out.length).length).length = out.length) : Closed l out :=
  ⟨h, by
    intro x hx q hq he
    unfold addTo at hl
    rw [List.take_length] at hl
    exact foldPut_same _ _ hl _ ((mem_thenP _ _ _).2 ⟨x, hx, q, hq, he, rfl⟩)⟩
def sliceLen : Value → Nat
  | .slice _ n _ => n
  | _ => 0
set_option maxHeartbeats 1000000 in
theorem closure_ref02 (v : Value) (l : List IPair) (w : World) (hl : Pairs w v l) (hn : l.length ≤ 90) : Calls Tryd.prog 27 #[v] w fun e w' => ∃ u out, e = .returned u ∧ Pairs w' u out ∧ Closed l out ∧ Ch nob w w' := by
  obtain ⟨A, ca, rfl⟩ := hl.shape
  have HL := Lib.hid hl
  clear hl
  have ho0 := (OwnP.made w w.heap.size 42 (Nat.le_refl _)).pairs
  have hc0 := (Ch.refl nob w).alloc (.cells #[] 42)
  have hsq : l.length * l.length ≤ 8100 := Nat.mul_le_mul hn hn
  go_enter Tryd.func27, Tryd.ntmps27
  go_wp2_with fail
  generalize w.alloc _ = w1 at ho0 hc0 ⊢
  go_loopw [3, 4] (fun o q wr => ∃ i : Nat, q = .int .i64 i ∧ i ≤ l.length ∧ Pairs wr o (addTo [] l i) ∧ Ch nob w wr) (fun _ q _ => l.length - (intOf q).toNat)
  case atStart => exact ⟨0, rfl, by omega, ho0, hc0⟩
  case round =>
    clear ho0 hc0
    obtain ⟨i, rfl, hi, ho, hc⟩ := hrel
    by_cases hlt : i < l.length
    · have hd : decide ((i : Int) < (l.length : Int)) = true := decide_eq_true (by omega)
      have hii : (i : Int) < (l.length : Int) := by omega
      have HN := Lib.hid (addTo_succ [] l i hlt)
      have hlen := addTo_len [] l i
      obtain ⟨_, _, hcl⟩ := (HL.out.keep hc).at
      obtain ⟨ad, rfl, hx1, hx2⟩ := hcl i hlt
      clear hcl
      obtain ⟨p, hp⟩ : ∃ p, l.getD i (0, 0) = p := ⟨_, rfl⟩
      rw [hp] at hx1 hx2 HN
      clear hp
      have hbd : (addTo [] l i).length ≤ 1000000 := by simp at hlen; omega
      obtain ⟨out, hout⟩ : ∃ out, addTo [] l i = out := ⟨_, rfl⟩
      rw [hout] at ho HN hlen hbd
      clear hout
      go_wp2_with fail
      go_region_with (go_at_call 19; refine (put_ref02 _ out p.1 p.2 _ (by exact ho) hbd).mono ?_; rintro e w5 ⟨u5, rfl, ho5, hc5⟩; rw [← HN.out] at ho5; have hc6 : Ch nob w w5 := Ch.seq (by first | exact hc | exact hc.drewN _ | exact (hc.drewN _).drew) hc5)
      all_goals
        go_wp2_with fail
        go_roundw
        case rel => exact ⟨i + 1, by go_num, by omega, ho5, by first | exact hc6 | exact hc6.drew⟩
        case measure => simp [intOf]; omega
    · obtain rfl : i = l.length := by omega
      have hd : decide ((l.length : Int) < (l.length : Int)) = false := by simp
      have HP := Lib.hid (Part.start l)
      clear hlt hi
      go_wp2_with fail
      go_loopw [3] (fun o wr => ∃ out : List IPair, Pairs wr o out ∧ Hid (Part l out) ∧ Ch nob w wr) (fun o _ => 8101 - sliceLen o)
      case atStart => exact ⟨_, ho, HP, hc⟩
      case round =>
        clear ho hc HP
        obtain ⟨out, ho, HP, hc⟩ := hrel
        have hol := HP.out.len
        have hmul : out.length * l.length ≤ 8100 * 90 := Nat.mul_le_mul (by omega) hn
        obtain ⟨B, cb, rfl⟩ := ho.shape
        have HO := Lib.hid ho
        have hl2 := Lib.hid (HL.out.keep hc)
        clear ho
        go_wp2_with fail
        refine (then_ref02 _ _ out l _ HO.out hl2.out (by omega)).mono ?_
        rintro e w2 ⟨vm, rfl, hm, hc2⟩
        obtain ⟨C, cc, rfl⟩ := hm.shape
        have ho2 := HO.out.keep hc2
        have hc3 := hc.seq hc2
        have hml := thenP_len out l out.length
        have HST := Lib.hid HP.out.step
        have HCL := Lib.hid (fun h => HP.out.closed h)
        have HGE := Lib.hid (foldPut_ge (thenP out l out.length) out)
        have HTK := Lib.hid (show addTo out (thenP out l out.length) (thenP out l out.length).length = (thenP out l out.length).foldl (fun o p => putP o p.1 p.2) out from by unfold addTo; rw [List.take_length])
        obtain ⟨more, hmore⟩ : ∃ more, thenP out l out.length = more := ⟨_, rfl⟩
        rw [hmore] at hm hml HST HCL HGE HTK ⊢
        have HM := Lib.hid (fun (w' : World) (h : Ch nob w2 w') => hm.keep h)
        have HO2 := Lib.hid (fun (w' : World) (h : Ch nob w2 w') => ho2.keep h)
        have hzz := Ch.refl nob w2
        clear hmore hm hc hc2 hl2 HO
        go_wp2_with fail
        go_loopw [5, 7] (fun o q wr => ∃ i : Nat, q = .int .i64 i ∧ i ≤ more.length ∧ Pairs wr o (addTo out more i) ∧ Ch nob w2 wr) (fun _ q _ => more.length - (intOf q).toNat)
        case atStart => exact ⟨0, rfl, by omega, ho2, hzz⟩
        case round =>
          clear ho2 hzz
          obtain ⟨i, rfl, hi, ho, hc⟩ := hrel
          by_cases hlt : i < more.length
          · have hd : decide ((i : Int) < (more.length : Int)) = true := decide_eq_true (by omega)
            have hii : (i : Int) < (more.length : Int) := by omega
            have HN := Lib.hid (addTo_succ out more i hlt)
            have hlen := addTo_len out more i
            obtain ⟨_, _, hcl⟩ := (HM.out _ hc).at
            obtain ⟨ad, rfl, hx1, hx2⟩ := hcl i hlt
            clear hcl
            obtain ⟨p, hp⟩ : ∃ p, more.getD i (0, 0) = p := ⟨_, rfl⟩
            rw [hp] at hx1 hx2 HN
            clear hp
            have hbd : (addTo out more i).length ≤ 1000000 := by omega
            obtain ⟨nx, hnx⟩ : ∃ nx, addTo out more i = nx := ⟨_, rfl⟩
            rw [hnx] at ho HN hlen hbd
            clear hnx hmul hsq
            go_wp2_with fail
            go_region_with (go_at_call 19; refine (put_ref02 _ nx p.1 p.2 _ (by exact ho) hbd).mono ?_; rintro e w5 ⟨u5, rfl, ho5, hc5⟩; rw [← HN.out] at ho5; have hc6 : Ch nob w2 w5 := Ch.seq (by first | exact hc | exact hc.drewN _ | exact (hc.drewN _).drew) hc5)
            all_goals
              go_wp2_with fail
              go_roundw
              case rel => exact ⟨i + 1, by go_num, by omega, ho5, by first | exact hc6 | exact hc6.drew⟩
              case measure => simp [intOf]; omega
          · obtain rfl : i = more.length := by omega
            have hd : decide ((more.length : Int) < (more.length : Int)) = false := by simp
            obtain ⟨D, cd, rfl⟩ := ho.shape
            have hc4 := hc3.seq hc
            clear hlt hi hc3
            by_cases heq : (addTo out more more.length).length = out.length
            · have HP2 := Lib.hid (HCL.out heq)
              have hq : (((addTo out more more.length).length : Int) == (out.length : Int)) = true := by simp [heq]
              have HOE := Lib.hid (HO2.out _ hc)
              clear HO2 HM heq
              go_wp2_with fail
              go_ret
              exact ⟨_, out, rfl, HOE.out, HP2.out, hc4⟩
            · have hgt : out.length < (addTo out more more.length).length := by rw [HTK.out] at heq ⊢; have := HGE.out; omega
              have hlen2 := HST.out.len
              have hq : (((addTo out more more.length).length : Int) == (out.length : Int)) = false := by rw [beq_eq_false_iff_ne]; omega
              obtain ⟨nx, hnx⟩ : ∃ nx, addTo out more more.length = nx := ⟨_, rfl⟩
              rw [hnx] at ho HST hgt hlen2 hq heq ⊢
              clear hnx HO2 HM heq
              go_wp2_with fail
              go_roundw
              case rel => exact ⟨nx, ho, HST, hc4⟩
              case measure => simp [sliceLen]; omega

theorem acyclic_ref02 (v : Value) (l : List IPair) (w : World) (hl : Pairs w v l) (hn : l.length ≤ 90) : Calls Tryd.prog 15 #[v] w fun e w' => ∃ out, e = .returned (.bool (out.all fun x : IPair => !(x.1 == x.2))) ∧ Closed l out ∧ Ch nob w w' := by
  obtain ⟨A, ca, rfl⟩ := hl.shape
  go_enter Tryd.func15, Tryd.ntmps15
  go_wp2_with fail
  refine (closure_ref02 _ l _ hl hn).mono ?_
  rintro e w1 ⟨u, out, rfl, ho, HC0, hc⟩
  obtain ⟨B, cb, rfl⟩ := ho.shape
  have HO := Lib.hid ho
  have HC := Lib.hid HC0
  clear ho HC0 hl
  obtain ⟨_, hlen, _⟩ := HO.out.at
  go_wp2_with fail
  go_loopw [4] (fun q wr => ∃ i : Nat, q = .int .i64 i ∧ i ≤ out.length ∧ Ch nob w1 wr ∧ Hid (∀ j, j < i → ((out.getD j (0, 0)).1 == (out.getD j (0, 0)).2) = false)) (fun q _ => out.length - (intOf q).toNat)
  case atStart => exact ⟨0, rfl, by omega, Ch.refl _ _, Lib.hid (fun j hj => by omega)⟩
  case round =>
    obtain ⟨i, rfl, hi, hc2, hn2⟩ := hrel
    by_cases hlt : i < out.length
    · have hd : decide ((i : Int) < (out.length : Int)) = true := decide_eq_true (by omega)
      have hii : (i : Int) < (out.length : Int) := by omega
      obtain ⟨_, _, hcells⟩ := (HO.out.keep hc2).at
      obtain ⟨ad, rfl, hx, hy⟩ := hcells i hlt
      clear hcells
      obtain ⟨p, hp⟩ : ∃ p, out.getD i (0, 0) = p := ⟨_, rfl⟩
      rw [hp] at hx hy
      have HP := Lib.hid hp
      clear hp
      cases he : p.1 == p.2
      · have hn3 : Hid (∀ j, j < i + 1 → ((out.getD j (0, 0)).1 == (out.getD j (0, 0)).2) = false) := Lib.hid (fun j hj => by
          by_cases h : j = i
          · rw [h, HP.out, he]
          · exact hn2.out j (by omega))
        go_wp2_with fail
        go_region_with fail
        all_goals
          go_wp2_with fail
          go_roundw
          case rel => exact ⟨i + 1, by go_num, by omega, hc2.drew, hn3⟩
          case measure => simp [intOf]; omega
      · have HF := Lib.hid (show (out.all fun x : IPair => !(x.1 == x.2)) = false from by
          rw [List.all_eq_false]
          refine ⟨p, ?_, by rw [he]; decide⟩
          have := HP.out
          rw [List.getD_eq_getElem?_getD, List.getElem?_eq_getElem hlt] at this
          rw [← this]
          exact List.getElem_mem hlt)
        have hc4 := hc.seq hc2
        go_wp2_with fail
        go_region_with fail
        all_goals
          go_wp2_with fail
          go_ret
          exact ⟨out, ret_bool HF.out.symm, HC.out, hc4.drew⟩
    · obtain rfl : i = out.length := by omega
      have HF := Lib.hid (show (out.all fun x : IPair => !(x.1 == x.2)) = true from by
        rw [List.all_eq_true]
        intro x hx
        obtain ⟨j, hj, rfl⟩ := List.getElem_of_mem hx
        have := hn2.out j hj
        rw [List.getD_eq_getElem?_getD, List.getElem?_eq_getElem hj] at this
        simpa using this)
      have hd : decide ((out.length : Int) < (out.length : Int)) = false := by simp
      have hc4 := hc.seq hc2
      go_wp2_with fail
      go_ret
      exact ⟨out, ret_bool HF.out.symm, HC.out, hc4⟩
end Go.Proofs.YtbpmcjndlbkkiaaDoor
