/- Words and numbers in a line (token.Join): the walk. No condition but each theorem's own. -/
import Derived.Test.YtobfanodjdkkoaaDoorBld
import Derived.Test.YtobfanodjdkkoaaDoorShelf
import Derived.Test.YtobfanodjdkkoaaDoorSl
import Derived.Test.YtobfanodjdkkoaaDoorTxns
import Derived.Lib.ItoaLen
import Derived.Lib.ItoaMem
set_option linter.unusedVariables false
set_option linter.unusedSimpArgs false
namespace Go.Proofs.YtobfanodjdkkoaaDoor
open Go.RowKit Go.Proofs

theorem ch_below {w a b : World} (h : Ch nob w a) (hb : Below w.heap.size a b) : Ch nob w b :=
  ⟨hb.os.trans h.os, hb.tape.trans h.tape, hb.output.trans h.output, Nat.le_trans h.size hb.size, fun k hk hn => (hb.block k hk).trans (h.block k hk hn)⟩
theorem bld_keep {w w' : World} {B b : Nat} {bs : List Value} (h : Lib.IsBuilder 56 5 B b bs w) (hc : Ch nob w w') : Lib.IsBuilder 56 5 B b bs w' := by
  have step : ∀ p, Lib.BuilderAt 56 5 B b p bs w → Lib.BuilderAt 56 5 B b p bs w' := fun p hp => by
    have hlt := hp.lt
    obtain ⟨hB, v, hb, hown, hne⟩ := hp
    exact ⟨hB, v, (hc.block b hlt (fun h => h)).trans hb, hown.kept (grown_of_ch hc none) (by cases hv : v.ownBlock with | none => exact .inl rfl | some q => exact .inr (by simp)), hne⟩
  exact h.imp (step _) (step _)
/-- A number in words, from this world on. -/
def ItoaOk (w : World) (n : Int) : Prop := ∀ u, Ch nob w u → Calls Tryd.prog 30 #[.int .i64 n] u fun e w' => e = .returned (.string ⟨(Lib.itoa n).toArray⟩) ∧ Ch nob u w'
theorem ItoaOk.keep {w w' : World} {n : Int} (h : ItoaOk w n) (hc : Ch nob w w') : ItoaOk w' n := fun u hu => h u (hc.seq hu)
theorem itoa_small (w : World) (i : Nat) (hi : i < 100) : ItoaOk w (i : Int) := fun u _ => by
  refine (Tryd.strconv_Itoa_small i hi u).mono ?_
  rintro e w' ⟨rfl, rfl⟩
  exact ⟨by rw [Lib.itoa_nonneg], Ch.refl _ _⟩
/-- The numbers of a line, so far. -/
def joinTo (s : List UInt8) (l : List Int) : Nat → List UInt8
  | 0 => s
  | j + 1 => joinTo s l j ++ (32 :: Lib.itoa (l.getD j 0))
def joinB (s : List UInt8) (l : List Int) : List UInt8 := joinTo s l l.length
theorem joinTo_len (s : List UInt8) (l : List Int) (h : ∀ n ∈ l, (Lib.itoa n).length ≤ 21) : ∀ j, j ≤ l.length → (joinTo s l j).length ≤ s.length + 22 * j
  | 0, _ => Nat.le_refl _
  | j + 1, hj => by
    have ih := joinTo_len s l h j (by omega)
    have hm : l.getD j 0 ∈ l := by rw [List.getD_eq_getElem?_getD, List.getElem?_eq_getElem (by omega)]; exact List.getElem_mem _
    have h2 := h _ hm
    unfold joinTo
    rw [List.length_append, List.length_cons]
    omega
set_option maxRecDepth 100000 in
set_option maxHeartbeats 2000000 in
theorem join_token (w : World) (s : ByteArray) (v : Value) (l : List Int) (hv : Ints w v l) (hs : s.size ≤ 1000) (h0 : s.data.toList ≠ []) (hl : l.length ≤ 100) (hI : ∀ n ∈ l, ItoaOk w n ∧ (Lib.itoa n).length ≤ 21) :
    Calls Tryd.prog 23 #[.string s, v] w fun e w' => e = .returned (.string ⟨(joinB s.data.toList l).toArray⟩) ∧ Ch nob w w' := by
  obtain ⟨A, cp, rfl⟩ := hv.shape
  have HV := Lib.hid hv
  have HI := Lib.hid hI
  have hlen2 := joinTo_len s.data.toList l (fun n hn => (hI n hn).2)
  have hsz : s.data.toList.length = s.size := by rw [Array.length_toList]; rfl
  rw [hsz] at hlen2
  have HL := Lib.hid hlen2
  have HJ := Lib.hid (show joinB s.data.toList l = joinTo s.data.toList l l.length from rfl)
  have HS := Lib.hid (fun j => show joinTo s.data.toList l (j + 1) = joinTo s.data.toList l j ++ (32 :: Lib.itoa (l.getD j 0)) from rfl)
  have HNE := Lib.hid h0
  have hz0 := Lib.hid (show Lib.strCells s = Lib.byteCells (joinTo s.data.toList l 0) from rfl)
  obtain ⟨J, hJ⟩ : ∃ J, joinTo s.data.toList l = J := ⟨_, rfl⟩
  have HJN := Lib.hid (show ∀ j, J j ≠ [] from fun j => by
    rw [← hJ]
    cases j with
    | zero => exact h0
    | succ j => unfold joinTo; simp)
  rw [hJ] at HL HJ HS hz0
  obtain ⟨n, hn⟩ : ∃ n, l.length = n := ⟨_, rfl⟩
  have HN := Lib.hid hn
  rw [hn] at HV HL HJ hl ⊢
  have hb0 := Lib.hid (Lib.fresh_isBuilder 56 5 w)
  have hc0 : Ch nob w (w.alloc (.cells #[.pointer none, .slice none 0 0] 56)) := (Ch.refl _ _).alloc _
  clear hv hI hlen2 hn h0 hJ hsz
  go_enter Tryd.func23, Tryd.ntmps23
  go_wp2_with fail
  refine (write_string w.heap.size w.heap.size [] s _ hb0.out (by simp; omega) hc0.size).mono ?_
  rintro e w1 ⟨rfl, hb1, hbl⟩
  have hc1 := ch_below hc0 hbl
  have HB1 := Lib.hid (show Lib.IsBuilder 56 5 w.heap.size w.heap.size (Lib.byteCells (J 0)) w1 from .inr (by rw [← hz0.out]; simpa using hb1))
  clear hb0 hc0 hb1 hbl
  go_wp2_with fail
  go_loopw [12] (fun x wr => ∃ j : Nat, x = .int .i64 j ∧ j ≤ n ∧ Hid (Lib.IsBuilder 56 5 w.heap.size w.heap.size (Lib.byteCells (J j)) wr) ∧ Ch nob w wr) (fun x _ => n - (intOf x).toNat)
  case atStart => exact ⟨0, rfl, Nat.zero_le _, HB1, hc1⟩
  case round =>
    clear HB1 hc1
    obtain ⟨j, rfl, hj, hb, hc⟩ := hrel
    by_cases hlt : j < n
    · have hd : decide ((j : Int) < (n : Int)) = true := decide_eq_true (by omega)
      obtain ⟨ad, rfl, hx⟩ := (HV.out.keep hc).at.2.2 j (by rw [HN.out]; exact hlt)
      obtain ⟨x, hxx⟩ : ∃ x, l.getD j 0 = x := ⟨_, rfl⟩
      rw [hxx] at hx
      have hxm : x ∈ l := by
        rw [← hxx, List.getD_eq_getElem?_getD, List.getElem?_eq_getElem (by rw [HN.out]; exact hlt)]
        exact List.getElem_mem _
      have HIX := Lib.hid (HI.out x hxm)
      have hlj := HL.out j (by omega)
      have HST := Lib.hid (show J (j + 1) = J j ++ (32 :: Lib.itoa x) from by rw [HS.out, hxx])
      obtain ⟨Jj, hJj⟩ : ∃ q, J j = q := ⟨_, rfl⟩
      rw [hJj] at hb HST hlj
      clear hxx hxm hJj
      go_wp2_with fail
      refine (write_byte w.heap.size w.heap.size (Lib.byteCells Jj) 32 wr hb.out (by rw [Lib.byteCells_length]; omega) hc.size).mono ?_
      rintro e w2 ⟨rfl, hb2, hbl2⟩
      have hc2 := ch_below hc hbl2
      clear hbl2 hb hc
      go_wp2_with fail
      refine (HIX.out.1 _ hc2).mono ?_
      rintro e w3 ⟨rfl, hc3⟩
      have hb3 := Lib.hid (bld_keep (.inr hb2) hc3)
      have hc4 := hc2.seq hc3
      clear hb2 hc2 hc3
      go_wp2_with fail
      refine (write_string w.heap.size w.heap.size _ ⟨(Lib.itoa x).toArray⟩ w3 hb3.out (by have := HIX.out.2; rw [List.length_append, Lib.byteCells_length]; show _ + 1 + (Lib.itoa x).toArray.size ≤ _; rw [List.size_toArray]; omega) hc4.size).mono ?_
      rintro e w5 ⟨rfl, hb5, hbl5⟩
      have hc5 := ch_below hc4 hbl5
      have hb6 := Lib.hid (show Lib.IsBuilder 56 5 w.heap.size w.heap.size (Lib.byteCells (J (j + 1))) w5 from .inr (by
        rw [HST.out, Lib.byteCells_append]
        have e1 : Lib.byteCells (32 :: Lib.itoa x) = [.int .u8 32] ++ Lib.strCells ⟨(Lib.itoa x).toArray⟩ := rfl
        rw [e1, ← List.append_assoc]
        exact hb5))
      clear hb5 hbl5 hb3 hc4 hx
      go_wp2_with fail
      go_roundw
      case rel => exact ⟨j + 1, by go_num, by omega, hb6, hc5⟩
      case measure => simp [intOf]; omega
    · have hd : decide ((j : Int) < (n : Int)) = false := decide_eq_false (by omega)
      obtain rfl : j = n := by omega
      have HF := Lib.hid (Tryd.Builder_String w.heap.size w.heap.size (J j) wr hb.out (HJN.out j))
      obtain ⟨R, hR⟩ : ∃ R, J j = R := ⟨_, rfl⟩
      have HR := Lib.hid (show joinB s.data.toList l = R from HJ.out.trans hR)
      rw [hR] at HF
      clear hR HJ
      go_wp2_with fail
      refine HF.out.mono ?_
      rintro e w2 ⟨rfl, hbl⟩
      have hc2 := ch_below hc hbl
      go_wp2_with fail
      go_ret
      exact ⟨by rw [HR.out]; rfl, hc2⟩
end Go.Proofs.YtobfanodjdkkoaaDoor
