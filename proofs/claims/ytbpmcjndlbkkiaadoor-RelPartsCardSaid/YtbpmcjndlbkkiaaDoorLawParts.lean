/- RelParts answers true, whatever its arguments, where the library's table reads as its text lays it. -/
import Derived.Test.YtbpmcjndlbkkiaaDoorRelIs
import Derived.Test.YtbpmcjndlbkkiaaDoorPairOpen
import Derived.Maps.AppendAt
set_option linter.unusedVariables false
set_option linter.unusedSimpArgs false
namespace Go.Proofs.YtbpmcjndlbkkiaaDoor
open Go.RowKit
attribute [local go_sem ↓] zero_rel

/-- Pairs turned, one by one. -/
def turnL (l : List IPair) (k : Nat) : List IPair := (l.take k).map fun p => (p.2, p.1)
theorem turnL_succ (l : List IPair) (k : Nat) (h : k < l.length) : turnL l (k + 1) = turnL l k ++ [((l.getD k (0, 0)).2, (l.getD k (0, 0)).1)] := by
  unfold turnL
  rw [List.take_add_one, List.getElem?_eq_getElem h, List.map_append, List.getD_eq_getElem?_getD, List.getElem?_eq_getElem h]
  rfl
def allIn (l m : List IPair) (k : Nat) : Bool := (l.take k).all fun p => hasP m p.1 p.2
theorem allIn_succ (l m : List IPair) (k : Nat) (h : k < l.length) : allIn l m (k + 1) = (allIn l m k && hasP m (l.getD k (0, 0)).1 (l.getD k (0, 0)).2) := by
  unfold allIn
  rw [List.take_add_one, List.getElem?_eq_getElem h, List.all_append, List.getD_eq_getElem?_getD, List.getElem?_eq_getElem h]
  simp
theorem unionR_ok {r t : Nat → Nat} (h : RelOK r) (k : RelOK t) : RelOK (unionR r t 64) := fun i => by
  unfold unionR
  split
  · exact or_ok (h i) (k i)
  · exact h i
/-- 'append(s, Pair{a, b})', and where it lies. -/
theorem wpList_append_pair_at {P : Program} {w : World} {ops : Array Oper} {rest : List Oper} {o : Oper} {a : Act} {Q : Exit → Act → World → Prop} (hgd : o.guard = none) (s x : Operand) (t e : TypeId)
    (ho : o.op = .call { callee := .builtin .append, args := #[s, x], argTypes := #[t, t] }) (he : ElemOK P t e (.agg #[.int .i64 0, .int .i64 0]) 2 16)
    (base : Nat) (v : Value) (xs : List IPair) (hs : a.eval s = v) (hown : OwnP w base e v xs)
    (g : Nat) (m n : Int) (T : TypeId) (hx : a.eval x = .slice (some ⟨g, 0, none⟩) 1 1) (hb : Blk w g #[.int .i64 m, .int .i64 n] T) (hn : xs.length ≤ 1000000) (hbase : base ≤ w.heap.size)
    (h : ∀ v' w', OwnP w' base e v' (xs ++ [(m, n)]) → w.grownBy w' v.ownBlock → (v'.ownBlock = v.ownBlock ∨ v'.ownBlock = some w.heap.size) → wpList P ops Q rest (a.put o.dst v') w') : wpList P ops Q (o :: rest) a w := by
  obtain ⟨i, hi, hz0, hz1, hz2⟩ := he.get
  refine wpList_append_own_at w hgd s x t ho base e i (.agg #[.int .i64 0, .int .i64 0]) 2 16 he.under hi hz0 hz1 hz2 rfl (by decide) v xs.length _ hs hown.1 ⟨g, 0, none⟩ 1 1 [.int .i64 m, .int .i64 n] hx rfl ?_ ?_ (by unfold maxLen; omega) (by omega) hbase (fun v' w' h1 h2 _ h4 => h v' w' ⟨by rw [List.length_append, flat_append]; exact h1, by rw [List.length_append]; simp; omega⟩ h2 h4)
  · intro j u hu
    rw [show (⟨g, 0, none⟩ : Addr).add j = ⟨g, j, none⟩ from by unfold Addr.add; split <;> simp_all]
    exact hb.cell (by simpa using hu)
  · intro u hu
    simp at hu
    rcases hu with rfl | rfl <;> rfl
/-- A row of pairs does not lie in an empty block. -/
theorem Pairs.off {w : World} {v : Value} {xs : List IPair} {g : Nat} {T : TypeId} (h : Pairs w v xs) (hb : Blk w g #[] T) (b : Nat) (hv : v.ownBlock = some b) (hx : xs ≠ []) : b ≠ g := by
  rintro rfl
  obtain ⟨A, c, rfl, hl, hc⟩ := h
  have h0 : 0 < xs.length := List.length_pos_iff.2 hx
  obtain ⟨ad, rfl, hcell⟩ := hc h0
  have h2 := (hcell 0 h0).2
  rw [add_block] at h2
  have e : ad.block = b := by simpa [Value.ownBlock] using hv
  rw [e, blk_cell hb] at h2
  simp at h2
theorem Pairs.ch1 {S : Nat → Prop} {w w' : World} {v : Value} {xs : List IPair} (h : Pairs w v xs) (hc : Ch S w w') (hn : ∀ b, v.ownBlock = some b → xs ≠ [] → ¬ S b) : Pairs w' v xs := by
  cases xs with
  | nil =>
    obtain ⟨A, c, hv, hl, hx⟩ := h
    exact ⟨A, c, hv, hl, fun h0 => absurd h0 (by simp)⟩
  | cons p xs => exact h.ch hc (fun b hb => hn b hb (by simp))
set_option maxRecDepth 100000 in
set_option maxHeartbeats 2000000 in
theorem law_parts (w : World) (hT : Tab w) (va : Value) (a : List IPair) (hva : Pairs w va a) (vb : Value) (b : List IPair) (hvb : Pairs w vb b) :
    Calls Tryd.prog 6 #[va, vb] w fun e w' => e = .returned (.bool true) ∧ Below w.heap.size w w' := by
  obtain ⟨A, ca, rfl⟩ := hva.shape
  obtain ⟨B, cb, rfl⟩ := hvb.shape
  obtain ⟨_, hal, _⟩ := hva.at
  obtain ⟨_, hbl, _⟩ := hvb.at
  go_enter Tryd.func6, Tryd.ntmps6
  go_wp2_with fail
  refine (speaks02 _ hT).mono ?_
  rintro e w1 ⟨rfl, hc1⟩
  have hT1 := hT.keep hc1
  have hTw := hT
  have HA := Lib.hid (hva.keep hc1)
  have HB := Lib.hid (hvb.keep hc1)
  clear hva hvb hT
  by_cases ha : 30 < a.length
  · have ha' : (30 : Int) < (a.length : Int) := by omega
    go_wp2_with fail
    go_ret
    exact ⟨rfl, hc1.below⟩
  by_cases hb : 30 < b.length
  · have ha' : ¬ (30 : Int) < (a.length : Int) := by omega
    have hb' : (30 : Int) < (b.length : Int) := by omega
    go_wp2_with fail
    go_ret
    exact ⟨rfl, hc1.below⟩
  have ha' : ¬ (30 : Int) < (a.length : Int) := by omega
  have hb' : ¬ (30 : Int) < (b.length : Int) := by omega
  go_wp2_with fail
  refine (of_law02 _ a _ HA.out (by omega)).mono ?_
  rintro e w2 ⟨vl, rfl, hvl, hc2⟩
  have okr := ofRel_ok a a.length
  have HIr := Lib.hid (Is.of a a.length (Nat.le_refl _))
  have hll := ofPairs_len a a.length
  obtain ⟨r, hr⟩ : ∃ r, ofRel a a.length = r := ⟨_, rfl⟩
  obtain ⟨l, hl⟩ : ∃ l, ofPairs a a.length = l := ⟨_, rfl⟩
  rw [hr] at okr HIr ⊢
  rw [hl] at HIr hvl hll
  clear hr hl
  obtain ⟨C, cc, rfl⟩ := hvl.shape
  obtain ⟨Z, hZ⟩ : ∃ Z, (relArr fun _ => 0) = Z := ⟨_, rfl⟩
  have HZ := Lib.hid hZ
  have hzz : Z.size = 64 := by rw [← hZ]; exact relArr_size _
  obtain ⟨R, hR⟩ : ∃ R, relArr r = R := ⟨_, rfl⟩
  have hsr : R.size = 64 := by rw [← hR]; exact relArr_size _
  have hcr : R.all (·.oneCell') = true := by rw [← hR]; exact relArr_cells r
  obtain ⟨hr3, hc3⟩ := new_row w2 Z R 27
  have HR3 := Lib.hid hr3
  have hT3 := (hT1.keep hc2).keep hc3
  have HB3 := Lib.hid ((HB.out.keep hc2).keep hc3)
  have HL3 := Lib.hid (hvl.keep hc3)
  have hc4 := (hc1.seq hc2).seq hc3
  have HRR := Lib.hid hR
  rw [hR]
  clear hvl hc3 hT1 HA HB hc1 hc2 hR hr3
  go_wp2_with (refine wpList_store_row rfl 27 (.tmp 5) (.tmp 31) rfl w2.heap.size R rfl rfl 27 Z (Blk.new w2 Z _) (by rw [hsr]; kernel_rfl) (by rw [hzz, hsr]) hcr ?_)
  generalize (w2.alloc _).setRow _ _ = w3 at HR3 HB3 HL3 hc4 hT3 ⊢
  obtain ⟨g, hg⟩ : ∃ g, w2.heap.size = g := ⟨_, rfl⟩
  rw [hg] at HR3 ⊢
  clear hg
  refine (of_law02 _ b _ HB3.out (by omega)).mono ?_
  rintro e w4 ⟨vm, rfl, hvm, hc5⟩
  have okt := ofRel_ok b b.length
  have HIt := Lib.hid (Is.of b b.length (Nat.le_refl _))
  have hml := ofPairs_len b b.length
  obtain ⟨t, ht⟩ : ∃ t, ofRel b b.length = t := ⟨_, rfl⟩
  obtain ⟨m, hm⟩ : ∃ m, ofPairs b b.length = m := ⟨_, rfl⟩
  rw [ht] at okt HIt ⊢
  rw [hm] at HIt hvm hml
  clear ht hm
  obtain ⟨D, cd, rfl⟩ := hvm.shape
  obtain ⟨U, hU⟩ : ∃ U, relArr t = U := ⟨_, rfl⟩
  have hst : U.size = 64 := by rw [← hU]; exact relArr_size _
  have hct : U.all (·.oneCell') = true := by rw [← hU]; exact relArr_cells t
  obtain ⟨ht5, hc6⟩ := new_row w4 Z U 27
  have hr5 := (HR3.out.ch hc5 (fun h => h)).ch hc6 (fun h => h)
  have hT5 := (hT3.keep hc5).keep hc6
  have HL5 := Lib.hid ((HL3.out.keep hc5).keep hc6)
  have HM5 := Lib.hid (hvm.keep hc6)
  have hc7 := (hc4.seq hc5).seq hc6
  have HT5 := Lib.hid ht5
  have HR5 := Lib.hid hr5
  have HUU := Lib.hid hU
  rw [hU]
  clear hvm hc6 hT3 HL3 HB3 hc4 hc5 hU hr5 ht5 HR3
  go_wp2_with (first
    | (refine wpList_store_row rfl 27 (.tmp 8) (.tmp 37) rfl w4.heap.size U rfl rfl 27 Z (Blk.new w4 Z _) (by rw [hst]; kernel_rfl) (by rw [hzz, hst]) hct ?_)
    | (refine wpList_load_rowG rfl 27 (.tmp 5) rfl g rfl 27 R (0, 0) _ HR5.out rfl rfl (by rw [hsr]; kernel_rfl) ?_))
  generalize (w4.alloc _).setRow _ _ = w5 at HT5 HR5 HL5 HM5 hc7 hT5 ⊢
  obtain ⟨f, hf⟩ : ∃ f, w4.heap.size = f := ⟨_, rfl⟩
  rw [hf] at HT5 ⊢
  rw [← HRR.out] at HR5
  rw [← HUU.out] at HT5
  rw [← HRR.out, ← HUU.out]
  clear hf hsr hcr hst hct HRR HUU hZ hzz
  refine (same_law02 r okr _ l _ HL5.out).mono ?_
  rintro e w6 ⟨rfl, hc8⟩
  rw [HIr.out.same]
  have hc9a := hc7.seq hc8
  have hc9 := (hc7.seq hc8).alloc (.cells #[] 42)
  have hgq := (HR5.out.ch hc8 (fun h => h)).lt
  have hfq := (HT5.out.ch hc8 (fun h => h)).lt
  have hc8a := hc8.alloc (.cells #[] 42)
  have hr7 := HR5.out.ch hc8a (fun h => h)
  have ht7 := HT5.out.ch hc8a (fun h => h)
  have hl7 := HL5.out.keep hc8a
  have hm7 := HM5.out.keep hc8a
  have hT7 := hT5.keep hc8a
  have ho7 := OwnP.made w6 w6.heap.size 42 (Nat.le_refl _)
  have hg7 := Blk.new w6 #[] 42
  have hgl := hg7.lt
  clear hc8 hc8a HR5 HT5 HL5 HM5 hT5 hc7
  go_wp2_with fail
  generalize w6.alloc _ = w7 at hc9 hr7 ht7 hl7 hm7 hT7 ho7 hg7 hgl ⊢
  obtain ⟨q, hq⟩ : ∃ q, w6.heap.size = q := ⟨_, rfl⟩
  have hwq : w.heap.size ≤ w6.heap.size := hc9a.size
  rw [hq] at ho7 hg7 hgl hgq hfq hwq ⊢
  clear hq
  have HM7 := Lib.hid (fun (w' : World) (h : Ch nob w7 w') => hm7.keep h)
  have HL7 := Lib.hid (fun (w' : World) (h : Ch nob w7 w') => hl7.keep h)
  have hcr := Ch.refl nob w7
  have hTc := Lib.hid hTw
  have hc9s := Lib.hid hwq
  go_loopw [11, 56] (fun o x wr => ∃ i : Nat, x = .int .i64 i ∧ i ≤ m.length ∧ Pairs wr o (addTo l m i) ∧ Ch nob w7 wr) (fun _ x _ => m.length - (intOf x).toNat)
  case atStart => exact ⟨0, rfl, by omega, hl7, hcr⟩
  case round =>
    clear hcr hl7 hm7
    obtain ⟨i, rfl, hi, ho, hc⟩ := hrel
    by_cases hlt : i < m.length
    · have hd : decide ((i : Int) < (m.length : Int)) = true := decide_eq_true (by omega)
      have HN := Lib.hid (addTo_succ l m i hlt)
      have hlen := addTo_len l m i
      obtain ⟨_, _, hcl⟩ := (HM7.out _ hc).at
      obtain ⟨ad, rfl, hx1, hx2⟩ := hcl i hlt
      clear hcl
      obtain ⟨p, hp⟩ : ∃ p, m.getD i (0, 0) = p := ⟨_, rfl⟩
      rw [hp] at hx1 hx2 HN
      obtain ⟨x, y⟩ := p
      clear hp
      simp only at hx1 hx2 HN
      have ho2 := ho.keep ((Ch.refl nob wr).alloc (.cells #[.int .i64 x, .int .i64 y] 42))
      have hc2 := hc.alloc (.cells #[.int .i64 x, .int .i64 y] 42)
      have hb2 := Blk.new wr #[.int .i64 x, .int .i64 y] 42
      clear ho hc
      go_wp2_with fail
      refine (put_ref02 _ (addTo l m i) x y _ ho2 (by omega)).mono ?_
      rintro e w9 ⟨u, rfl, ho3, hc3⟩
      rw [← HN.out] at ho3
      have hc4 := hc2.seq hc3
      clear hb2 ho2 hc2 hc3 hx1 hx2
      go_wp2_with fail
      go_roundw
      case rel => exact ⟨i + 1, by go_num, by omega, ho3, hc4⟩
      case measure => simp [intOf]; omega
    · obtain rfl : i = m.length := by omega
      have hd : decide ((m.length : Int) < (m.length : Int)) = false := by simp
      obtain ⟨wa, rfl⟩ : ∃ wa : World, wa = wr := ⟨_, rfl⟩
      obtain ⟨F, cf, rfl⟩ := ho.shape
      have hla := HL7.out _ hc
      have hma := HM7.out _ hc
      have hra := hr7.ch hc (fun h => h)
      have hta := ht7.ch hc (fun h => h)
      have hga := hg7.ch hc (fun h => h)
      have hoa := ho7.keep hc
      have hca := hc9.seq hc
      have hTa := hT7.keep hc
      have HLa := Lib.hid (fun (w' : World) (h : Ch (· = q) wa w') => hla.ch1 h (fun b hb hne => hla.off hga b hb hne))
      have HMa := Lib.hid (fun (w' : World) (h : Ch (· = q) wa w') => hma.ch1 h (fun b hb hne => hma.off hga b hb hne))
      have HOa := Lib.hid (fun (w' : World) (h : Ch (· = q) wa w') => ho.ch1 h (fun b hb hne => ho.off hga b hb hne))
      have HRa := Lib.hid (fun (w' : World) (h : Ch (· = q) wa w') => hra.ch h (by omega))
      have HTa := Lib.hid (fun (w' : World) (h : Ch (· = q) wa w') => hta.ch h (by omega))
      have hqa : q < wa.heap.size := hga.lt
      have hcr := Ch.refl (· = q) wa
      have hlen9 := addTo_len l m m.length
      clear hc hr7 ht7 hg7 hc9 ho7 hT7 HL7 HM7 hlt hi ho hla hma hra hta hga hgl
      go_wp2_with fail
      go_loopw [12, 13, 69] (fun o b x wr => ∃ i : Nat, x = .int .i64 i ∧ i ≤ l.length ∧ b = .bool (allIn l m i) ∧ OwnP wr q 42 o (turnL l i) ∧ Hid (∀ k, o.ownBlock = some k → k = q ∨ wa.heap.size ≤ k) ∧ Ch (· = q) wa wr) (fun _ _ x _ => l.length - (intOf x).toNat)
      case atStart => exact ⟨0, rfl, by omega, rfl, hoa, Lib.hid (fun k hk => .inl (by simpa [Value.ownBlock] using hk.symm)), hcr⟩
      case round =>
        clear hoa hcr
        obtain ⟨i, rfl, hi, rfl, ho, hob, hc⟩ := hrel
        by_cases hlt : i < l.length
        · have hd : decide ((i : Int) < (l.length : Int)) = true := decide_eq_true (by omega)
          have HN := Lib.hid (turnL_succ l i hlt)
          have HK := Lib.hid (allIn_succ l m i hlt)
          have hlen : (turnL l i).length ≤ 1000000 := by unfold turnL; rw [List.length_map, List.length_take]; omega
          obtain ⟨_, _, hcl⟩ := (HLa.out _ hc).at
          obtain ⟨ad, rfl, hx1, hx2⟩ := hcl i hlt
          clear hcl
          obtain ⟨p, hp⟩ : ∃ p, l.getD i (0, 0) = p := ⟨_, rfl⟩
          rw [hp] at hx1 hx2 HN HK
          obtain ⟨x, y⟩ := p
          clear hp
          simp only at hx1 hx2 HN HK
          have hof := Lib.hid ((ho.alloc (.cells #[.int .i64 x, .int .i64 y] 42)).alloc (.cells #[.int .i64 y, .int .i64 x] 42))
          have hc2 := Lib.hid ((hc.alloc (.cells #[.int .i64 x, .int .i64 y] 42)).alloc (.cells #[.int .i64 y, .int .i64 x] 42))
          obtain ⟨hb1, hb2, _, hsz⟩ := two_new wr #[.int .i64 x, .int .i64 y] #[.int .i64 y, .int .i64 x] 42 42
          have HB1 := Lib.hid hb1
          have HB2 := Lib.hid hb2
          have hge := hc2.out.size
          have HGE := Lib.hid (ho.ge)
          have hwa := hc.size
          clear ho hc hb1 hb2 hsz
          obtain ⟨z, hz⟩ : ∃ z, allIn l m i = z := ⟨_, rfl⟩
          rw [hz] at HK ⊢
          clear hz
          cases z
          all_goals
            go_wp2_with (at_builtin; refine wpList_append_pair_at rfl (.tmp 73) (.tmp 79) 22 42 rfl elem_pair q _ (turnL l i) rfl hof.out (wr.heap.size + 1) y x 42 rfl HB2.out (by omega) (by omega) ?_; intro v3 w3 hown3 hg3 hat3; have hb3 := HB1.out.grown hg3 (fun e => by have := HGE.out _ e; omega); have hy0 : w3.cell? ⟨wr.heap.size, 0, none⟩ = some (.int .i64 x) := hb3.cell rfl; have hy1 : w3.cell? ⟨wr.heap.size, 1, none⟩ = some (.int .i64 y) := hb3.cell rfl)
            have hc3 : Ch (· = q) wa w3 := hc2.out.grown hg3 (fun k hk e => by
              rcases hob.out k e with h | h
              · exact h
              · omega)
            have hob3 : Hid (∀ k, v3.ownBlock = some k → k = q ∨ wa.heap.size ≤ k) := Lib.hid (fun k hk => by
              rcases hat3 with h | h
              · rw [h] at hk; exact hob.out k hk
              · rw [h] at hk
                simp at hk
                omega)
            rw [← HN.out] at hown3
            clear hof hc2 HB1 HB2 hge HGE hat3 hg3
          · have HK2 := Lib.hid (show allIn l m (i + 1) = false from by rw [HK.out]; rfl)
            clear HK
            go_roundw
            case rel => exact ⟨i + 1, by go_num, by omega, by rw [HK2.out], hown3, hob3, hc3⟩
            case measure => simp [intOf]; omega
          · have HK2 := Lib.hid (show allIn l m (i + 1) = hasP m x y from by rw [HK.out]; rfl)
            clear HK
            refine (has_ref02 _ m x y _ (HMa.out _ hc3)).mono ?_
            rintro e w4' ⟨rfl, rfl⟩
            clear hy0 hy1 hb3
            go_wp2_with fail
            go_roundw
            case rel => exact ⟨i + 1, by go_num, by omega, by rw [HK2.out], hown3, hob3, hc3⟩
            case measure => simp [intOf]; omega
        · obtain rfl : i = l.length := by omega
          have hd : decide ((l.length : Int) < (l.length : Int)) = false := by simp
          obtain ⟨wz, rfl⟩ : ∃ wz : World, wz = wr := ⟨_, rfl⟩
          have hlz := HLa.out _ hc
          have hmz := HMa.out _ hc
          have hoz := HOa.out _ hc
          have hrz := HRa.out _ hc
          have htz := HTa.out _ hc
          have huz := ho.pairs
          have hcz := hca.fresh hc (by have := hca.size; have := hc9s.out; omega)
          have HLz := Lib.hid (fun (w' : World) (h : Ch nob wz w') => hlz.keep h)
          have HMz := Lib.hid (fun (w' : World) (h : Ch nob wz w') => hmz.keep h)
          have HOz := Lib.hid (fun (w' : World) (h : Ch nob wz w') => hoz.keep h)
          have HRz := Lib.hid (fun (w' : World) (h : Ch nob wz w') => hrz.ch h (fun h => h))
          have HTz := Lib.hid (fun (w' : World) (h : Ch nob wz w') => htz.ch h (fun h => h))
          have HUz := Lib.hid (fun (w' : World) (h : Ch nob wz w') => huz.keep h)
          have HTT := Lib.hid (fun (w' : World) (h : Ch nob wz w') => (hTc.out.keep hcz).keep h)
          obtain ⟨G, cg, rfl⟩ := huz.shape
          have HI1 := Lib.hid (HIr.out.union HIt.out).same
          have HI2 := Lib.hid (HIr.out.then HIt.out).same
          have HI3 := Lib.hid (HIr.out.turned).same
          have HI3e := Lib.hid (show turnL l l.length = l.map (fun p => (p.2, p.1)) from by unfold turnL; rw [List.take_length])
          have HI4 := Lib.hid (fun out (h : Closed l out) => (HIr.out.closure h).same)
          have HI5 := Lib.hid (show withinR r t = allIn l m l.length from by unfold allIn; rw [List.take_length]; exact (HIr.out.within HIt.out okr).symm)
          have HI6 := Lib.hid (fun out (h : Closed l out) => HIr.out.acyclic h)
          have hk := Ch.refl nob wz
          have hmul : l.length * m.length ≤ 30 * 30 := Nat.mul_le_mul (by omega) (by omega)
          clear hlz hmz hoz hrz htz huz HLa HMa HOa HRa HTa hc hlt hi ho hob
          go_wp2_with (first | (refine wpList_load_rowG rfl 27 (.tmp 5) rfl g rfl 27 (relArr r) (0, 0) _ (HRz.out _ hk) rfl rfl (by rw [relArr_size]; kernel_rfl) ?_) | (refine wpList_load_rowG rfl 27 (.tmp 8) rfl f rfl 27 (relArr t) (0, 0) _ (HTz.out _ hk) rfl rfl (by rw [relArr_size]; kernel_rfl) ?_))
          refine (union_rel r t okr okt _).mono ?_
          rintro e w10 ⟨rfl, hc10⟩
          replace hk := hk.seq hc10
          go_wp2_with fail
          refine (same_law02 _ (unionR_ok okr okt) _ _ _ (HOz.out _ hk)).mono ?_
          rintro e w11 ⟨rfl, hc11⟩
          rw [HI1.out]
          replace hk := hk.seq hc11
          clear hc10 hc11
          go_wp2_with (first | (refine wpList_load_rowG rfl 27 (.tmp 5) rfl g rfl 27 (relArr r) (0, 0) _ (HRz.out _ hk) rfl rfl (by rw [relArr_size]; kernel_rfl) ?_) | (refine wpList_load_rowG rfl 27 (.tmp 8) rfl f rfl 27 (relArr t) (0, 0) _ (HTz.out _ hk) rfl rfl (by rw [relArr_size]; kernel_rfl) ?_))
          refine (then_rel r t okr okt _ (HTT.out _ hk)).mono ?_
          rintro e w12 ⟨rfl, hc12⟩
          replace hk := hk.seq hc12
          go_wp2_with fail
          refine (then_ref02 _ _ l m _ (HLz.out _ hk) (HMz.out _ hk) (by omega)).mono ?_
          rintro e w13 ⟨x13, rfl, hx13, hc13⟩
          replace hk := hk.seq hc13
          go_wp2_with fail
          refine (same_law02 _ (thenR_ok r okt) _ _ _ hx13).mono ?_
          rintro e w14 ⟨rfl, hc14⟩
          rw [HI2.out]
          replace hk := hk.seq hc14
          clear hc12 hc13 hc14 hx13
          go_wp2_with (first | (refine wpList_load_rowG rfl 27 (.tmp 5) rfl g rfl 27 (relArr r) (0, 0) _ (HRz.out _ hk) rfl rfl (by rw [relArr_size]; kernel_rfl) ?_) | (refine wpList_load_rowG rfl 27 (.tmp 8) rfl f rfl 27 (relArr t) (0, 0) _ (HTz.out _ hk) rfl rfl (by rw [relArr_size]; kernel_rfl) ?_))
          refine (turned_rel r okr _ (HTT.out _ hk)).mono ?_
          rintro e w15 ⟨rfl, hc15⟩
          replace hk := hk.seq hc15
          go_wp2_with fail
          refine (same_law02 _ (turnTo_ok r 64) _ _ _ (HUz.out _ hk)).mono ?_
          rintro e w16 ⟨rfl, hc16⟩
          rw [HI3e.out, HI3.out]
          replace hk := hk.seq hc16
          clear hc15 hc16
          go_wp2_with (first | (refine wpList_load_rowG rfl 27 (.tmp 5) rfl g rfl 27 (relArr r) (0, 0) _ (HRz.out _ hk) rfl rfl (by rw [relArr_size]; kernel_rfl) ?_) | (refine wpList_load_rowG rfl 27 (.tmp 8) rfl f rfl 27 (relArr t) (0, 0) _ (HTz.out _ hk) rfl rfl (by rw [relArr_size]; kernel_rfl) ?_))
          refine (closure_rel r okr _).mono ?_
          rintro e w17 ⟨rfl, hc17⟩
          replace hk := hk.seq hc17
          go_wp2_with fail
          refine (closure_ref02 _ l _ (HLz.out _ hk) (by omega)).mono ?_
          rintro e w18 ⟨x18, out18, rfl, hx18, hcl18, hc18⟩
          replace hk := hk.seq hc18
          go_wp2_with fail
          refine (same_law02 _ (closeR_ok okr 64) _ _ _ hx18).mono ?_
          rintro e w19 ⟨rfl, hc19⟩
          rw [HI4.out _ hcl18]
          replace hk := hk.seq hc19
          clear hc17 hc18 hc19 hx18 hcl18
          go_wp2_with (first | (refine wpList_load_rowG rfl 27 (.tmp 5) rfl g rfl 27 (relArr r) (0, 0) _ (HRz.out _ hk) rfl rfl (by rw [relArr_size]; kernel_rfl) ?_) | (refine wpList_load_rowG rfl 27 (.tmp 8) rfl f rfl 27 (relArr t) (0, 0) _ (HTz.out _ hk) rfl rfl (by rw [relArr_size]; kernel_rfl) ?_))
          refine (within_rel r t okr okt _).mono ?_
          rintro e w20 ⟨rfl, hc20⟩
          rw [HI5.out]
          replace hk := hk.seq hc20
          have heq : (allIn l m l.length == allIn l m l.length) = true := by simp
          go_wp2_with (first | (refine wpList_load_rowG rfl 27 (.tmp 5) rfl g rfl 27 (relArr r) (0, 0) _ (HRz.out _ hk) rfl rfl (by rw [relArr_size]; kernel_rfl) ?_) | (refine wpList_load_rowG rfl 27 (.tmp 8) rfl f rfl 27 (relArr t) (0, 0) _ (HTz.out _ hk) rfl rfl (by rw [relArr_size]; kernel_rfl) ?_))
          refine (acyclic_rel r okr _).mono ?_
          rintro e w21 ⟨rfl, hc21⟩
          replace hk := hk.seq hc21
          go_wp2_with fail
          refine (acyclic_ref02 _ l _ (HLz.out _ hk) (by omega)).mono ?_
          rintro e w22 ⟨out22, rfl, hcl22, hc22⟩
          rw [HI6.out _ hcl22]
          replace hk := hk.seq hc22
          have heq2 : (acyR r == acyR r) = true := by simp
          clear hc20 hc21 hc22 hcl22
          go_wp2_with (first | (refine wpList_load_rowG rfl 27 (.tmp 5) rfl g rfl 27 (relArr r) (0, 0) _ (HRz.out _ hk) rfl rfl (by rw [relArr_size]; kernel_rfl) ?_) | (refine wpList_load_rowG rfl 27 (.tmp 8) rfl f rfl 27 (relArr t) (0, 0) _ (HTz.out _ hk) rfl rfl (by rw [relArr_size]; kernel_rfl) ?_))
          refine (has_rel r okr (-1) 3 _).mono ?_
          rintro e w23 ⟨rfl, hc23⟩
          rw [show hasR r (-1) 3 = false from rfl]
          replace hk := hk.seq hc23
          go_wp2_with (first | (refine wpList_load_rowG rfl 27 (.tmp 5) rfl g rfl 27 (relArr r) (0, 0) _ (HRz.out _ hk) rfl rfl (by rw [relArr_size]; kernel_rfl) ?_) | (refine wpList_load_rowG rfl 27 (.tmp 8) rfl f rfl 27 (relArr t) (0, 0) _ (HTz.out _ hk) rfl rfl (by rw [relArr_size]; kernel_rfl) ?_))
          refine (has_rel r okr 64 0 _).mono ?_
          rintro e w24 ⟨rfl, hc24⟩
          rw [show hasR r 64 0 = false from rfl]
          replace hk := hk.seq hc24
          have hend := hcz.seq hk
          clear hc23 hc24 hk
          go_wp2_with fail
          go_ret
          exact ⟨rfl, hend.below⟩
end Go.Proofs.YtbpmcjndlbkkiaaDoor
