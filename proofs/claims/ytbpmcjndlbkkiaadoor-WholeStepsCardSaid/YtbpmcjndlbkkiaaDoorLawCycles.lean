/- RelCycles answers true, whatever its arguments, where the library's table reads as its text lays it. -/
import Derived.Test.YtbpmcjndlbkkiaaDoorRelIs
import Derived.Test.YtbpmcjndlbkkiaaDoorPairOpen
set_option linter.unusedVariables false
set_option linter.unusedSimpArgs false
namespace Go.Proofs.YtbpmcjndlbkkiaaDoor
open Go.RowKit
attribute [local go_sem ↓] zero_rel

theorem IntsK.takeK {k : IntKind} {w : World} {A : Option Addr} {n c : Nat} {xs : List Int} (h : IntsK k w (.slice A n c) xs) (i : Nat) (hi : i ≤ xs.length) (c' : Nat) (hc : i ≤ c') : IntsK k w (.slice A i c') (xs.take i) := by
  obtain ⟨rfl, hl, hx⟩ := h.at
  have e : (xs.take i).length = i := by rw [List.length_take]; omega
  refine ⟨A, c', by rw [e], by rw [e]; omega, fun h0 => ?_⟩
  rw [e] at h0
  obtain ⟨ad, rfl, _⟩ := hx 0 (by omega)
  refine ⟨ad, rfl, fun j hj => ?_⟩
  rw [e] at hj
  obtain ⟨ad', he, hx'⟩ := hx j (by omega)
  obtain rfl : ad = ad' := by simpa using he
  rw [hx', List.getD_eq_getElem?_getD, List.getD_eq_getElem?_getD, List.getElem?_take, if_pos hj]
theorem natL_len (l : List Nat) : (natL l).length = l.length := by unfold natL; rw [List.length_map]
theorem natL_getD (l : List Nat) (i : Nat) (h : i < l.length) : (natL l).getD i 0 = ((l.getD i 0 : Nat) : Int) := by
  unfold natL
  rw [List.getD_eq_getElem?_getD, List.getD_eq_getElem?_getD, List.getElem?_map, List.getElem?_eq_getElem h]
  rfl
theorem CycR.empty {r : Nat → Nat} {l : List Nat} (h : CycR r l) : (l.length = 0) = (acyR r = true) := by
  rw [acyR_iff]
  rcases h with ⟨rfl, h⟩ | ⟨h0, _, _, _, ⟨i, hi, he⟩, _⟩
  · simp only [List.length_nil, eq_iff_iff, true_iff]; exact h
  · simp only [eq_iff_iff]
    constructor
    · intro h; omega
    · intro h; exact absurd he (h i hi)
theorem CycR.lenB {r : Nat → Nat} {l : List Nat} (h : CycR r l) : l.length ≤ 64 := by
  rcases h with ⟨rfl, h⟩ | ⟨_, h, _⟩
  · simp
  · exact h
theorem CycR.stepB {r : Nat → Nat} {l : List Nat} (h : CycR r l) (i : Nat) (hi : i < l.length) : E r (l.getD i 0) (l.getD ((i + 1) % l.length) 0) ∧ l.getD i 0 < 64 ∧ l.getD ((i + 1) % l.length) 0 < 64 ∧ Ref01.hasL (natL (l.take i)) ((l.getD i 0 : Nat) : Int) = false := by
  rcases h with ⟨rfl, h⟩ | ⟨h0, _, hnd, hlt, _, hs⟩
  · simp at hi
  · have hm : (i + 1) % l.length < l.length := Nat.mod_lt _ h0
    have hget : ∀ j, j < l.length → l.getD j 0 < 64 := fun j hj => by
      rw [List.getD_eq_getElem?_getD, List.getElem?_eq_getElem hj]
      exact hlt _ (List.getElem_mem hj)
    refine ⟨hs i hi, hget i hi, hget _ hm, ?_⟩
    unfold Ref01.hasL
    rw [List.any_eq_false]
    intro x hx
    unfold natL at hx
    obtain ⟨n, hn, rfl⟩ := List.mem_map.1 hx
    obtain ⟨j, hj, rfl⟩ := List.getElem_of_mem hn
    rw [List.length_take] at hj
    rw [List.getElem_take]
    intro e
    rw [beq_iff_eq] at e
    have e2 : l[j] = l[i] := by
      rw [List.getD_eq_getElem?_getD, List.getElem?_eq_getElem hi] at e
      have e' : ((l[j] : Nat) : Int) = ((l[i] : Nat) : Int) := e
      omega
    have := (List.getElem_inj hnd).1 e2
    omega
set_option maxRecDepth 100000 in
set_option maxHeartbeats 2000000 in
theorem law_cycles (w : World) (hT : Tab w) (va : Value) (a : List IPair) (hva : Pairs w va a) :
    Calls Tryd.prog 4 #[va] w fun e w' => e = .returned (.bool true) ∧ Below w.heap.size w w' := by
  obtain ⟨A, ca, rfl⟩ := hva.shape
  obtain ⟨_, hal, _⟩ := hva.at
  go_enter Tryd.func4, Tryd.ntmps4
  go_wp2_with fail
  refine (speaks02 _ hT).mono ?_
  rintro e w1 ⟨rfl, hc1⟩
  have hT1 := hT.keep hc1
  have HA := Lib.hid (hva.keep hc1)
  clear hva hT
  by_cases ha : 40 < a.length
  · have ha' : (40 : Int) < (a.length : Int) := by omega
    go_wp2_with fail
    go_ret
    exact ⟨rfl, hc1.below⟩
  have ha' : ¬ (40 : Int) < (a.length : Int) := by omega
  go_wp2_with fail
  refine (of_law02 _ a _ HA.out (by omega)).mono ?_
  rintro e w2 ⟨vl, rfl, hvl, hc2⟩
  have okr := ofRel_ok a a.length
  have HIr := Lib.hid (Is.of a a.length (Nat.le_refl _))
  have hll := ofPairs_len a a.length
  obtain ⟨r, hr⟩ : ∃ r, ofRel a a.length = r := ⟨_, rfl⟩
  obtain ⟨l, hl⟩ : ∃ l, ofPairs a a.length = l := ⟨_, rfl⟩
  rw [hr] at okr HIr ⊢
  rw [hl] at HIr hvl hll
  clear hr hl
  obtain ⟨C, cc, rfl⟩ := hvl.shape
  obtain ⟨Z, hZ⟩ : ∃ Z, (relArr fun _ => 0) = Z := ⟨_, rfl⟩
  have hzz : Z.size = 64 := by rw [← hZ]; exact relArr_size _
  obtain ⟨R, hR⟩ : ∃ R, relArr r = R := ⟨_, rfl⟩
  have hsr : R.size = 64 := by rw [← hR]; exact relArr_size _
  have hcr := relArr_cells r
  rw [hR] at hcr
  obtain ⟨hr3, hc3⟩ := new_row w2 Z R 27
  have HR3 := Lib.hid hr3
  have hT3 := (hT1.keep hc2).keep hc3
  have HL3 := Lib.hid (hvl.keep hc3)
  have hc4 := (hc1.seq hc2).seq hc3
  have HRR := Lib.hid hR
  rw [hR]
  clear hvl hc3 hT1 HA hc1 hc2 hR hr3
  go_wp2_with (first
    | (refine wpList_store_row rfl 27 (.tmp 3) (.tmp 17) rfl w2.heap.size R rfl rfl 27 Z (Blk.new w2 Z _) (by rw [hsr]; kernel_rfl) (by rw [hzz, hsr]) hcr ?_)
    | (refine wpList_load_rowG rfl 27 (.tmp 3) rfl w2.heap.size rfl 27 R (0, 0) _ HR3.out rfl rfl (by rw [hsr]; kernel_rfl) ?_))
  generalize (w2.alloc _).setRow _ _ = w3 at HR3 HL3 hc4 hT3 ⊢
  rw [← HRR.out]
  clear hsr hcr HRR hZ hzz HR3
  refine (cycle_rel r okr _ hT3).mono ?_
  rintro e w4 ⟨vc, cl, rfl, hcy, hvc, hc5⟩
  have HL4 := HL3.out.keep hc5
  have hc6 := hc4.seq hc5
  obtain ⟨D, cd, rfl⟩ := hvc.shape
  have hlen := hcy.lenB
  have hnl := natL_len cl
  rw [hnl] at hvc ⊢
  have HCY := Lib.hid hcy
  have HAC := Lib.hid (fun out (h : Closed l out) => HIr.out.acyclic h)
  have HEM := Lib.hid hcy.empty
  clear hc4 hc5 hT3 hcy hnl
  go_wp2_with fail
  refine (acyclic_ref02 _ l _ HL4 (by omega)).mono ?_
  rintro e w5 ⟨out, rfl, hcl, hc7⟩
  rw [HAC.out _ hcl]
  have HLw := Lib.hid (fun (w' : World) (h : Ch nob w5 w') => (HL4.keep hc7).keep h)
  have HCw := Lib.hid (fun (w' : World) (h : Ch nob w5 w') => (hvc.keep hc7).keep h)
  have hc8 := hc6.seq hc7
  have heq : (((cl.length : Int) == 0) == acyR r) = true := by
    rw [beq_iff_eq, Bool.eq_iff_iff, ← HEM.out, beq_iff_eq]; omega
  clear hcl hc6 hc7 HL4 hvc
  go_wp2_with fail
  have hLw := HLw.out _ (Ch.refl _ _)
  have hCw := HCw.out _ (Ch.refl _ _)
  have HL := Lib.hid hLw
  have HC := Lib.hid hCw
  clear HLw HCw hLw hCw
  go_loop [34] (fun x => ∃ i : Nat, x = .int .i64 i ∧ i ≤ cl.length) (fun x => cl.length - (intOf x).toNat)
  case atStart => exact ⟨0, rfl, by omega⟩
  case round =>
    obtain ⟨i, rfl, hi⟩ := hrel
    by_cases hlt : i < cl.length
    · have hd : decide ((i : Int) < (cl.length : Int)) = true := decide_eq_true (by omega)
      obtain ⟨hs1, hs2, hs3, hs4⟩ := HCY.out.stepB i hlt
      have hml : (i + 1) % cl.length < cl.length := Nat.mod_lt _ (by omega)
      obtain ⟨k, hk⟩ : ∃ k, (i + 1) % cl.length = k := ⟨_, rfl⟩
      rw [hk] at hs1 hs3 hml
      have hk1 : ((i : Int) + 1) % (cl.length : Int) = (k : Int) := by rw [← hk, Int.natCast_emod]; rfl
      have hk2 : Int.tmod ((i : Int) + 1) (cl.length : Int) = (k : Int) := by rw [Int.tmod_eq_emod_of_nonneg (by omega)]; exact hk1
      clear hk
      have hcc := HC.out.cap
      have hCi := HC.out.takeK i (by rw [natL_len]; omega) cd (by rw [natL_len] at hcc; omega)
      have HCi := Lib.hid hCi
      have hcl := HC.out.at.2.2
      obtain ⟨ad, rfl, hx⟩ := hcl i (by rw [natL_len]; omega)
      obtain ⟨ad', he, hy⟩ := hcl k (by rw [natL_len]; omega)
      obtain rfl : ad = ad' := by simpa using he
      rw [natL_getD _ _ hlt] at hx
      rw [natL_getD _ _ hml] at hy
      have HP := Lib.hid (show hasP l ((cl.getD i 0 : Nat) : Int) ((cl.getD k 0 : Nat) : Int) = true from (hasP_iff _ _ _).2 ((HIr.out.bit hs2 hs3).2 hs1))
      have HN := Lib.hid (show Ref01.hasL ((natL cl).take i) ((cl.getD i 0 : Nat) : Int) = false from by
        have : (natL cl).take i = natL (cl.take i) := by unfold natL; rw [List.map_take]
        rw [this]; exact hs4)
      generalize cl.getD i 0 = x at hx HP HN
      generalize cl.getD k 0 = y at hy HP
      have h0 : (0 : Int) < (cl.length : Int) := by omega
      have hkl : (k : Int) < (cl.length : Int) := by omega
      have hil : (i : Int) < (cl.length : Int) := by omega
      have hcdl : (i : Int) ≤ (cd : Int) := by rw [natL_len] at hcc; omega
      clear hs1 hs2 hs3 hs4 hCi hcl hcc he
      go_wp2_with fail
      refine (has_ref02 _ l x y _ HL.out).mono ?_
      rintro e w6 ⟨rfl, rfl⟩
      rw [HP.out]
      go_wp2_with fail
      refine (Ref01.has_ref01 _ _ x _ HCi.out).mono ?_
      rintro e w6 ⟨rfl, rfl⟩
      rw [HN.out]
      go_wp2_with fail
      go_round
      case rel => exact ⟨i + 1, by go_num, by omega⟩
      case measure => simp [intOf]; omega
    · obtain rfl : i = cl.length := by omega
      have hd : decide ((cl.length : Int) < (cl.length : Int)) = false := by simp
      go_wp2_with fail
      go_ret
      exact ⟨rfl, hc8.below⟩
end Go.Proofs.YtbpmcjndlbkkiaaDoor
