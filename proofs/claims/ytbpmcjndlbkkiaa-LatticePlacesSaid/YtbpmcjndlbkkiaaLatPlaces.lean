/- A law of package burgagelaw19 answers true, whatever its argument: LatticePlaces. No condition. -/
import Derived.Test.YtbpmcjndlbkkiaaLatLaws
set_option linter.unusedVariables false
set_option linter.unusedSimpArgs false
namespace Go.Proofs.Ytbpmcjndlbkkiaa
open Go.RowKit
attribute [local go_sem ↓] zero_all zero_row

theorem words_eq (l : List Int) : (if (wordsA l).toList = [] then (⟨#[32, 45]⟩ : ByteArray) else wordsA l) = ⟨#[32]⟩ ++ wordsB l := by
  have h := words_blank l
  have h2 : (wordsA l).toList = wordsT l := by unfold wordsA; rw [ByteArray.toList_eq]
  rw [h2]
  apply ByteArray.ext
  rw [ByteArray.data_append, ← Array.toList_inj, Array.toList_append]
  show _ = [32] ++ (wordsB l).data.toList
  rw [List.singleton_append, h]
  split <;> rfl
theorem text_same (A B : ByteArray) (S L : List Int) (hA : A = ⟨#[32]⟩ ++ wordsB S) (hB : B = ⟨#[32]⟩ ++ wordsB L) : textB S L = ⟨#[115, 116, 114, 111, 110, 103, 101, 115, 116]⟩ ++ A ++ ⟨#[10, 98, 101, 121, 111, 110, 100]⟩ ++ B ++ ⟨#[10]⟩ := by
  subst hA hB
  unfold textB
  apply ByteArray.ext
  simp only [ByteArray.data_append, ← Array.toList_inj, Array.toList_append]
  simp
theorem words_size (A : ByteArray) (S : List Int) (hA : A = ⟨#[32]⟩ ++ wordsB S) (hS : S.length ≤ 12) : A.size ≤ 300 := by
  have := wordsB_len S
  rw [hA, ByteArray.size_append]
  have h1 : (⟨#[32]⟩ : ByteArray).size = 1 := rfl
  omega

set_option maxHeartbeats 4000000 in
set_option maxRecDepth 20000 in
theorem law_latplaces (n : Int) (hn : 0 ≤ n ∧ n ≤ 65535) (w : World) :
    Calls Try.prog 3 #[.int .u16 n] w fun e w' => e = .returned (.bool true) ∧ Below w.heap.size w w' := by
  obtain ⟨h0, h1⟩ := hn
  go_enter Try.func3, Try.ntmps3
  go_wp2_with fail
  refine (speaks19 _).mono ?_
  rintro e w1 ⟨rfl, hc⟩
  go_wp2_with fail
  refine (row_law19 n _ h0 h1).mono ?_
  rintro e w2 ⟨rfl, hc2⟩
  generalize bitAt n = r
  replace hc := hc.seq hc2
  have hg2 := hc.size
  clear hc2
  obtain ⟨hz, hcz, hsz⟩ := one_new w2 (arrOf 12 fun _ => .bool false) 25
  have hb := hz.row (rowArr r)
  have hch : Ch nob w2 ((w2.alloc (.cells (arrOf 12 fun _ => .bool false) 25)).setRow w2.heap.size (rowArr r)) := hcz.setRow _ _ (fun h => by omega)
  replace hc := hc.seq hch
  clear hcz hsz hch
  go_wp2_with (first | (refine wpList_store_row rfl 25 (.tmp 3) (.tmp 25) rfl w2.heap.size (rowArr r) rfl rfl 25 _ hz (by rw [rowArr, arrOf_size]; kernel_rfl) (by rw [arrOf_size, rowArr, arrOf_size]) (arrOf_cells _ _ fun _ _ => rfl) ?_) | (refine wpList_load_row rfl 25 (.tmp 3) rfl w2.heap.size rfl 25 (rowArr r) (0, 0) _ hb rfl rfl (by rw [rowArr, arrOf_size]; kernel_rfl) ?_))
  generalize (w2.alloc _).setRow _ _ = w3 at hb hc ⊢
  clear hz
  have nb0 : (Value.slice none 0 0).ownBlock = none := rfl
  have s1 : Hid (levTo r 0 = [] → (Value.slice none 0 0).ownBlock = none) := Lib.hid (fun _ => nb0)
  have s2 : Hid (levTo (fun i => !r i) 0 = [] → (Value.slice none 0 0).ownBlock = none) := Lib.hid (fun _ => nb0)
  have s3 : Hid (∀ b, (Value.slice none 0 0).ownBlock = some b → (Value.slice none 0 0).ownBlock ≠ some b) := Lib.hid (fun _ _ => by rw [nb0]; simp)
  go_loopw [4, 5, 27] (fun vi vo q wr => ∃ k : Nat, q = .int .i64 k ∧ k ≤ 12 ∧ Own wr w3.heap.size 3 vi (levTo r k) ∧ Own wr w3.heap.size 3 vo (levTo (fun i => !r i) k) ∧ Hid (levTo r k = [] → vi.ownBlock = none) ∧ Hid (levTo (fun i => !r i) k = [] → vo.ownBlock = none) ∧ Hid (∀ b, vi.ownBlock = some b → vo.ownBlock ≠ some b) ∧ Ch nob w3 wr) (fun _ _ q _ => 12 - (intOf q).toNat)
  case atStart => exact ⟨0, rfl, by omega, OwnK.nil _ _ _ _, OwnK.nil _ _ _ _, s1, s2, s3, Ch.refl _ _⟩
  case round =>
    obtain ⟨k, rfl, hk, hi, ho, ni, no, hap, hcr⟩ := hrel
    by_cases hlt : k < 12
    · have hix := index_row r k hlt
      have hle := levTo_le r k
      have hle2 := levTo_le (fun i => !r i) k
      have HLS := Lib.hid (levTo_succ r k)
      have HLN := Lib.hid (levTo_succ (fun i => !r i) k)
      have hc2 := Lib.hid (hcr.alloc (.cells #[.int .i64 (k : Int)] 3))
      have hnb := Lib.hid (Blk.new wr #[.int .i64 (k : Int)] 3)
      have hif := Lib.hid (hi.alloc (.cells #[.int .i64 (k : Int)] 3))
      have hof := Lib.hid (ho.alloc (.cells #[.int .i64 (k : Int)] 3))
      have hge := hc2.out.size
      cases hrk : r k
      · rw [hrk] at hix
        have HI := Lib.hid (show levTo r (k + 1) = levTo r k from by rw [HLS.out, hrk]; simp)
        have HO := Lib.hid (show levTo (fun i => !r i) (k + 1) = levTo (fun i => !r i) k ++ [(k : Int)] from by rw [HLN.out, hrk]; simp)
        clear hi ho hcr hrk
        go_wp2_with (at_builtin; refine wpList_append_int rfl (.tmp 36) (.tmp 38) 27 3 rfl .i64 8 elem_int (by decide) w3.heap.size u5 _ rfl hof.out wr.heap.size (k : Int) 3 rfl hnb.out (by omega) (by omega) ?_; intro v' w' hown hg; have hc4 := hc2.out.grown_own hg (fun b hb => (hof.out.ge b hb).1); have hown2 : Own w' w3.heap.size 3 v' (levTo (fun i => !r i) (k + 1)) := (by rw [HO.out]; exact hown); have hin2 : Own w' w3.heap.size 3 u4 (levTo r (k + 1)) := (by rw [HI.out]; exact hif.out.grown hg (fun b hb => hap.out b hb)); have hni : Hid (levTo r (k + 1) = [] → u4.ownBlock = none) := (by rw [HI.out]; exact ni); have hno : Hid (levTo (fun i => !r i) (k + 1) = [] → v'.ownBlock = none) := Lib.hid (fun h => by rw [HO.out] at h; simp at h); have hap2 : Hid (∀ b, u4.ownBlock = some b → v'.ownBlock ≠ some b) := Lib.hid (fun b hb hv => hown2.apart hin2 (by rw [HO.out]; simp) hni.out (fun x h1 h2 => levTo_apart r (k + 1) (k + 1) x h2 h1) b hv hb); clear hown hg)
        go_roundw
        case rel => exact ⟨k + 1, by go_num, by omega, hin2, hown2, hni, hno, hap2, hc4⟩
        case measure => simp [intOf]; omega
      · rw [hrk] at hix
        have HI := Lib.hid (show levTo r (k + 1) = levTo r k ++ [(k : Int)] from by rw [HLS.out, hrk]; simp)
        have HO := Lib.hid (show levTo (fun i => !r i) (k + 1) = levTo (fun i => !r i) k from by rw [HLN.out, hrk]; simp)
        clear hi ho hcr hrk
        go_wp2_with (at_builtin; refine wpList_append_int rfl (.tmp 32) (.tmp 34) 27 3 rfl .i64 8 elem_int (by decide) w3.heap.size u4 _ rfl hif.out wr.heap.size (k : Int) 3 rfl hnb.out (by omega) (by omega) ?_; intro v' w' hown hg; have hc4 := hc2.out.grown_own hg (fun b hb => (hif.out.ge b hb).1); have hown2 : Own w' w3.heap.size 3 v' (levTo r (k + 1)) := (by rw [HI.out]; exact hown); have hou2 : Own w' w3.heap.size 3 u5 (levTo (fun i => !r i) (k + 1)) := (by rw [HO.out]; exact hof.out.grown hg (fun b hb he => hap.out b he hb)); have hno : Hid (levTo (fun i => !r i) (k + 1) = [] → u5.ownBlock = none) := (by rw [HO.out]; exact no); have hni : Hid (levTo r (k + 1) = [] → v'.ownBlock = none) := Lib.hid (fun h => by rw [HI.out] at h; simp at h); have hap2 : Hid (∀ b, v'.ownBlock = some b → u5.ownBlock ≠ some b) := Lib.hid (fun b hv hb => hown2.apart hou2 (by rw [HI.out]; simp) hno.out (fun x h1 h2 => levTo_apart r (k + 1) (k + 1) x h1 h2) b hv hb); clear hown hg)
        go_roundw
        case rel => exact ⟨k + 1, by go_num, by omega, hown2, hou2, hni, hno, hap2, hc4⟩
        case measure => simp [intOf]; omega
    · obtain rfl : k = 12 := by omega
      have hil : Ints wr u4 (listR r) := hi.ints
      have hol : Ints wr u5 (listR fun i => !r i) := ho.ints
      have hbr := hb.ch hcr (fun h => h)
      have hcc := hc.seq hcr
      have hll := listR_len r
      have hlo := listR_len (fun i => !r i)
      clear hi ho ni no hap hb hc hcr
      go_wp2_with fail
      refine (strongest_ref _ (listR r) _ hil (by omega)).mono ?_
      rintro e w5 ⟨vs, rfl, hos, hc5⟩
      rw [← strong_rows r] at hos
      have his := hos.ints
      have hol5 := hol.keep hc5
      have hbr5 := hbr.ch hc5 (fun h => h)
      have hcc5 := hcc.seq hc5
      clear hil hol hbr hcc hc5 hos
      have HWR := Lib.hid (weak_rows r)
      obtain ⟨lo, hloe⟩ : ∃ lo, (listR fun i => !r i) = lo := ⟨_, rfl⟩
      rw [hloe] at hol5 HWR hlo
      clear hloe
      have hsl : (strongR r).length ≤ 12 := strongTo_le r 12
      have hwl : (weakR r).length ≤ 12 := weakTo_le r 12
      obtain ⟨Ao, co, rfl⟩ := hol5.shape
      obtain ⟨As, cs, rfl⟩ := his.shape
      have ho0 := OwnK.made .i64 w5 w5.heap.size 3 (Nat.le_refl _)
      have hc0 := (Ch.refl nob w5).alloc (.cells #[] 3)
      have HOL := Lib.hid hol5
      clear hol5
      go_wp2_with fail
      generalize w5.alloc _ = w6 at ho0 hc0 ⊢
      go_loopw [9, 46] (fun o q wr => ∃ i : Nat, q = .int .i64 i ∧ i ≤ lo.length ∧ Own wr w5.heap.size 3 o ((lo.take i).filter (lowB lo)) ∧ Ch nob w5 wr) (fun _ q _ => lo.length - (intOf q).toNat)
      case atStart => exact ⟨0, rfl, by omega, by simpa using ho0, hc0⟩
      case round =>
        clear ho0 hc0
        obtain ⟨i, rfl, hi, ho, hcr⟩ := hrel
        by_cases hlti : i < lo.length
        · obtain ⟨_, _, hcells⟩ := (HOL.out.keep hcr).at
          have HC := Lib.hid hcells
          clear hcells
          obtain ⟨ad, rfl, hx⟩ := HC.out i hlti
          have HF := Lib.hid (filter_take_succ lo (lowB lo) i hlti)
          obtain ⟨z, hz⟩ : ∃ z, lo.getD i 0 = z := ⟨_, rfl⟩
          rw [hz] at hx HF
          have HZ := Lib.hid hz
          clear hz
          have HO := Lib.hid ho
          have HCR := Lib.hid hcr
          clear ho hcr
          go_wp2_with fail
          obtain ⟨wo, rfl⟩ : ∃ wo : World, wo = wr := ⟨_, rfl⟩
          go_loopw [12, 52] (fun b q wr => ∃ k : Nat, q = .int .i64 k ∧ k ≤ lo.length ∧ b = .bool (lowTo lo z k) ∧ wr = wo) (fun _ q _ => lo.length - (intOf q).toNat)
          case atStart => exact ⟨0, rfl, by omega, rfl, rfl⟩
          case round =>
            obtain ⟨k, rfl, hk2, rfl, rfl⟩ := hrel
            by_cases hltk : k < lo.length
            · obtain ⟨bd, hbd, hy⟩ := HC.out k hltk
              obtain rfl : ad = bd := by simpa using hbd
              have HS := Lib.hid (lowTo_succ lo z k hltk)
              generalize lo.getD k 0 = y at hy HS
              cases ht : lowTo lo z k
              · have hn2 := Lib.hid (show lowTo lo z (k + 1) = false from by rw [HS.out, ht]; simp)
                go_wp2_with fail
                go_roundw
                case rel => exact ⟨k + 1, by go_num, by omega, by rw [hn2.out], trivial⟩
                case measure => simp [intOf]; omega
              · by_cases he : y = z
                · have hb1 : (y == z) = true := by simp [he]
                  have hn2 := Lib.hid (show lowTo lo z (k + 1) = true from by rw [HS.out, ht, hb1]; simp)
                  clear he
                  go_wp2_with fail
                  go_roundw
                  case rel => exact ⟨k + 1, by go_num, by omega, by rw [hn2.out], trivial⟩
                  case measure => simp [intOf]; omega
                · have hb1 : (y == z) = false := by simp [he]
                  have hn2 := Lib.hid (show lowTo lo z (k + 1) = !impl z y from by rw [HS.out, ht, hb1]; simp)
                  clear he
                  go_wp2_with fail
                  refine (implies_ref _ _ _).mono ?_
                  rintro e w8 ⟨rfl, rfl⟩
                  go_wp2_with fail
                  go_roundw
                  case rel => exact ⟨k + 1, by go_num, by omega, by rw [hn2.out], trivial⟩
                  case measure => simp [intOf]; omega
            · obtain rfl : k = lo.length := by omega
              have HT := Lib.hid (lowTo_all lo z)
              rw [HT.out]
              have hle : ((lo.take i).filter (lowB lo)).length ≤ 12 := Nat.le_trans (List.length_filter_le _ _) (Nat.le_trans (List.length_take_le _ _) (by omega))
              cases ht : lowB lo z
              · have hf2 : Own wr w5.heap.size 3 u9 ((lo.take (i + 1)).filter (lowB lo)) := by rw [HF.out, ht]; simpa using HO.out
                have hc2 := HCR.out
                go_wp2_with fail
                go_roundw
                case rel => exact ⟨i + 1, by go_num, by omega, hf2, hc2⟩
                case measure => simp [intOf]; omega
              · have hof := Lib.hid (HO.out.alloc (.cells #[.int .i64 z] 3))
                have hc2 := Lib.hid (HCR.out.alloc (.cells #[.int .i64 z] 3))
                have hnb := Lib.hid (Blk.new wr #[.int .i64 z] 3)
                have hge := hc2.out.size
                have HT2 := Lib.hid ht
                go_wp2_with (at_builtin; refine wpList_append_int rfl (.tmp 70) (.tmp 72) 27 3 rfl .i64 8 elem_int (by decide) w5.heap.size u9 _ rfl hof.out wr.heap.size z 3 rfl hnb.out (by omega) (by omega) ?_; intro v' w' hown hg; have hc4 := hc2.out.grown_own hg (fun b hb => (hof.out.ge b hb).1); have hown2 : Own w' w5.heap.size 3 v' ((lo.take (i + 1)).filter (lowB lo)) := (by rw [HF.out, HT2.out]; exact hown); clear hown hg)
                go_roundw
                case rel => exact ⟨i + 1, by go_num, by omega, hown2, hc4⟩
                case measure => simp [intOf]; omega
        · have hiw : Ints wr u9 (weakR r) := by
            rw [HWR.out]
            rw [List.take_of_length_le (by omega)] at ho
            exact ho.ints
          have hbr6 := hbr5.ch hcr (fun h => h)
          have his6 := his.keep hcr
          have hcc6 := hcc5.seq hcr
          clear ho hbr5 his hcc5 hcr HOL HWR
          go_wp2_with (refine wpList_load_row rfl 25 (.tmp 3) rfl w2.heap.size rfl 25 (rowArr r) (0, 0) _ hbr6 rfl rfl (by rw [rowArr, arrOf_size]; kernel_rfl) ?_)
          refine (lat_of r _).mono ?_
          rintro e w7 ⟨v, u, rfl, hv, hu, hc7⟩
          obtain ⟨a1, c1, rfl⟩ := hv.shape
          obtain ⟨a2, c2, rfl⟩ := hu.shape
          have his7 := his6.keep hc7
          have hiw7 := hiw.keep hc7
          have hcc7 := hcc6.seq hc7
          clear hbr6 his6 hiw hcc6 hc7
          obtain ⟨Aw, cw, rfl⟩ := hiw7.shape
          obtain ⟨hpn, hcn, hsn⟩ := one_new w7 #[.slice a1 (strongR r).length c1, .slice a2 (weakR r).length c2] 32
          have hq1 : (((strongR r).length : Int) != ((strongR r).length : Int)) = false := by simp
          have hq2 : (((weakR r).length : Int) != ((weakR r).length : Int)) = false := by simp
          have hc8 := hcc7.seq hcn
          have hv8 := Lib.hid (hv.keep hcn)
          have hu8 := Lib.hid (hu.keep hcn)
          have his8 := Lib.hid (his7.keep hcn)
          have hiw8 := Lib.hid (hiw7.keep hcn)
          clear hv hu his7 hiw7 hcc7 hcn hsn
          go_wp2_with fail
          generalize w7.alloc _ = w8 at hpn hc8 hv8 hu8 his8 hiw8 ⊢
          go_loopw [16, 94] (fun x q wr => ∃ k : Nat, q = .int .i64 k ∧ k ≤ (strongR r).length ∧ x = .string (wordsA ((strongR r).take k)) ∧ wr = w8) (fun _ q _ => (strongR r).length - (intOf q).toNat)
          case atStart => exact ⟨0, rfl, by omega, rfl, rfl⟩
          case round =>
            obtain ⟨k, rfl, hk, rfl, rfl⟩ := hrel
            by_cases hltk : k < (strongR r).length
            · obtain ⟨_, _, hcells⟩ := hv8.out.at
              obtain ⟨ad1, rfl, hx⟩ := hcells k hltk
              clear hcells
              obtain ⟨_, _, hcells⟩ := his8.out.at
              obtain ⟨ad2, rfl, hy⟩ := hcells k hltk
              clear hcells
              have HW := Lib.hid (wordsA_succ (strongR r) k hltk)
              generalize (strongR r).getD k 0 = z at hx hy HW
              have hne : (z != z) = false := by simp
              have hsz := nameI_len z
              have hsw := wordsA_len ((strongR r).take k)
              have hle : ((strongR r).take k).length ≤ 12 := Nat.le_trans (List.length_take_le _ _) (by omega)
              have p1 : ¬ 9223372036854775807 < 1 + (nameI z).size := by omega
              have p2 : ¬ 9223372036854775807 < (wordsA ((strongR r).take k)).size + (1 + (nameI z).size) := by omega
              clear hsz hsw hle
              go_wp2_with fail
              refine (name_ref _ _).mono ?_
              rintro e w9 ⟨rfl, rfl⟩
              go_wp2_with fail
              go_roundw
              case rel => exact ⟨k + 1, by go_num, by omega, by rw [← HW.out], trivial⟩
              case measure => simp [intOf]; omega
            · obtain rfl : k = (strongR r).length := by omega
              rw [List.take_length]
              have hx1 := hpn.cell (i := 1) (v := .slice a2 (weakR r).length c2) rfl
              go_wp2_with fail
              obtain ⟨wo, rfl⟩ : ∃ wo : World, wo = wr := ⟨_, rfl⟩
              go_loopw [17, 117] (fun x q wr => ∃ k : Nat, q = .int .i64 k ∧ k ≤ (weakR r).length ∧ x = .string (wordsA ((weakR r).take k)) ∧ wr = wo) (fun _ q _ => (weakR r).length - (intOf q).toNat)
              case atStart => exact ⟨0, rfl, by omega, rfl, rfl⟩
              case round =>
                obtain ⟨k, rfl, hk, rfl, rfl⟩ := hrel
                by_cases hltk : k < (weakR r).length
                · obtain ⟨_, _, hcells⟩ := hu8.out.at
                  obtain ⟨ad1, rfl, hx⟩ := hcells k hltk
                  clear hcells
                  obtain ⟨_, _, hcells⟩ := hiw8.out.at
                  obtain ⟨ad2, rfl, hy⟩ := hcells k hltk
                  clear hcells
                  have HW := Lib.hid (wordsA_succ (weakR r) k hltk)
                  generalize (weakR r).getD k 0 = z at hx hy HW
                  have hne : (z != z) = false := by simp
                  have hsz := nameI_len z
                  have hsw := wordsA_len ((weakR r).take k)
                  have hle : ((weakR r).take k).length ≤ 12 := Nat.le_trans (List.length_take_le _ _) (by omega)
                  have p1 : ¬ 9223372036854775807 < 1 + (nameI z).size := by omega
                  have p2 : ¬ 9223372036854775807 < (wordsA ((weakR r).take k)).size + (1 + (nameI z).size) := by omega
                  clear hsz hsw hle
                  go_wp2_with fail
                  refine (name_ref _ _).mono ?_
                  rintro e w9 ⟨rfl, rfl⟩
                  go_wp2_with fail
                  go_roundw
                  case rel => exact ⟨k + 1, by go_num, by omega, by rw [← HW.out], trivial⟩
                  case measure => simp [intOf]; omega
                · obtain rfl : k = (weakR r).length := by omega
                  rw [List.take_length]
                  have hx0 := hpn.cell (i := 0) (v := .slice a1 (strongR r).length c1) rfl
                  have hx1 := hpn.cell (i := 1) (v := .slice a2 (weakR r).length c2) rfl
                  have hcA : Ch nob w wr := hc8
                  have hTV := hv8.out
                  have hTU := hu8.out
                  have EA := words_eq (strongR r)
                  have EB := words_eq (weakR r)
                  simp only [← List.isEmpty_iff] at EA EB
                  have HA := Lib.hid EA
                  have HB := Lib.hid EB
                  clear EA EB
                  cases hEA : (wordsA (strongR r)).toList.isEmpty
                  · cases hEB : (wordsA (weakR r)).toList.isEmpty
                    · have hA : Hid (wordsA (strongR r) = ⟨#[32]⟩ ++ wordsB (strongR r)) := by
                        have := HA.out
                        rw [hEA] at this
                        exact Lib.hid this
                      have hB : Hid (wordsA (weakR r) = ⟨#[32]⟩ ++ wordsB (weakR r)) := by
                        have := HB.out
                        rw [hEB] at this
                        exact Lib.hid this
                      clear HA HB
                      go_wp2_with fail
                      clear hEA hEB
                      generalize wordsA (strongR r) = A at hA ⊢
                      generalize wordsA (weakR r) = B at hB ⊢
                      refine (lat_text (.slice a1 (strongR r).length c1) (.slice a2 (weakR r).length c2) (strongR r) (weakR r) _ hTV hTU (by omega) (by omega)).mono ?_
                      rintro e w10 ⟨rfl, hc10⟩
                      have hsA := words_size A (strongR r) hA.out hsl
                      have hsB := words_size B (weakR r) hB.out hwl
                      have p0 : ¬ 9223372036854775807 < 9 + A.size := by omega
                      have p1 : ¬ 9223372036854775807 < 9 + A.size + 7 := by omega
                      have p2 : ¬ 9223372036854775807 < 9 + A.size + 7 + B.size := by omega
                      have p3 : ¬ 9223372036854775807 < 9 + A.size + 7 + B.size + 1 := by omega
                      have hts := text_same A B (strongR r) (weakR r) hA.out hB.out
                      rw [hts]
                      clear hA hB hsA hsB hts
                      go_wp2_with fail
                      go_ret
                      exact ⟨ret_bool (by simp), (hcA.seq hc10).below⟩
                    · have hA : Hid (wordsA (strongR r) = ⟨#[32]⟩ ++ wordsB (strongR r)) := by
                        have := HA.out
                        rw [hEA] at this
                        exact Lib.hid this
                      have hB : Hid ((⟨#[32, 45]⟩ : ByteArray) = ⟨#[32]⟩ ++ wordsB (weakR r)) := by
                        have := HB.out
                        rw [hEB] at this
                        exact Lib.hid this
                      clear HA HB
                      go_wp2_with fail
                      clear hEA hEB
                      generalize wordsA (strongR r) = A at hA ⊢
                      refine (lat_text (.slice a1 (strongR r).length c1) (.slice a2 (weakR r).length c2) (strongR r) (weakR r) _ hTV hTU (by omega) (by omega)).mono ?_
                      rintro e w10 ⟨rfl, hc10⟩
                      have hsA := words_size A (strongR r) hA.out hsl
                      have hsB := words_size (⟨#[32, 45]⟩ : ByteArray) (weakR r) hB.out hwl
                      have p0 : ¬ 9223372036854775807 < 9 + A.size := by omega
                      have p1 : ¬ 9223372036854775807 < 9 + A.size + 7 := by omega
                      have p2 : ¬ 9223372036854775807 < 9 + A.size + 7 + 2 := by omega
                      have p3 : ¬ 9223372036854775807 < 9 + A.size + 7 + 2 + 1 := by omega
                      have p4 : ¬ 9223372036854775807 < 9 + A.size + 9 := by omega
                      have p5 : ¬ 9223372036854775807 < 9 + A.size + 9 + 1 := by omega
                      have p6 : ¬ 9223372036854775807 < 9 + A.size + 10 := by omega
                      have hts := text_same A (⟨#[32, 45]⟩ : ByteArray) (strongR r) (weakR r) hA.out hB.out
                      rw [hts]
                      clear hA hB hsA hsB hts
                      go_wp2_with fail
                      go_ret
                      exact ⟨ret_bool (by simp), (hcA.seq hc10).below⟩
                  · cases hEB : (wordsA (weakR r)).toList.isEmpty
                    · have hA : Hid ((⟨#[32, 45]⟩ : ByteArray) = ⟨#[32]⟩ ++ wordsB (strongR r)) := by
                        have := HA.out
                        rw [hEA] at this
                        exact Lib.hid this
                      have hB : Hid (wordsA (weakR r) = ⟨#[32]⟩ ++ wordsB (weakR r)) := by
                        have := HB.out
                        rw [hEB] at this
                        exact Lib.hid this
                      clear HA HB
                      go_wp2_with fail
                      clear hEA hEB
                      generalize wordsA (weakR r) = B at hB ⊢
                      refine (lat_text (.slice a1 (strongR r).length c1) (.slice a2 (weakR r).length c2) (strongR r) (weakR r) _ hTV hTU (by omega) (by omega)).mono ?_
                      rintro e w10 ⟨rfl, hc10⟩
                      have hsA := words_size (⟨#[32, 45]⟩ : ByteArray) (strongR r) hA.out hsl
                      have hsB := words_size B (weakR r) hB.out hwl
                      have p0 : ¬ 9223372036854775807 < 18 + B.size := by omega
                      have p1 : ¬ 9223372036854775807 < 18 + B.size + 1 := by omega
                      have p2 : ¬ 9223372036854775807 < 11 + 7 + B.size := by omega
                      have p3 : ¬ 9223372036854775807 < 11 + 7 + B.size + 1 := by omega
                      have hts := text_same (⟨#[32, 45]⟩ : ByteArray) B (strongR r) (weakR r) hA.out hB.out
                      rw [hts]
                      clear hA hB hsA hsB hts
                      go_wp2_with fail
                      go_ret
                      exact ⟨ret_bool (by simp), (hcA.seq hc10).below⟩
                    · have hA : Hid ((⟨#[32, 45]⟩ : ByteArray) = ⟨#[32]⟩ ++ wordsB (strongR r)) := by
                        have := HA.out
                        rw [hEA] at this
                        exact Lib.hid this
                      have hB : Hid ((⟨#[32, 45]⟩ : ByteArray) = ⟨#[32]⟩ ++ wordsB (weakR r)) := by
                        have := HB.out
                        rw [hEB] at this
                        exact Lib.hid this
                      clear HA HB
                      go_wp2_with fail
                      clear hEA hEB
                      refine (lat_text (.slice a1 (strongR r).length c1) (.slice a2 (weakR r).length c2) (strongR r) (weakR r) _ hTV hTU (by omega) (by omega)).mono ?_
                      rintro e w10 ⟨rfl, hc10⟩
                      have hsA := words_size (⟨#[32, 45]⟩ : ByteArray) (strongR r) hA.out hsl
                      have hsB := words_size (⟨#[32, 45]⟩ : ByteArray) (weakR r) hB.out hwl
                      have hts := text_same (⟨#[32, 45]⟩ : ByteArray) (⟨#[32, 45]⟩ : ByteArray) (strongR r) (weakR r) hA.out hB.out
                      rw [hts]
                      clear hA hB hsA hsB hts
                      go_wp2_with fail
                      go_ret
                      exact ⟨ret_bool (by simp), (hcA.seq hc10).below⟩
end Go.Proofs.Ytbpmcjndlbkkiaa
