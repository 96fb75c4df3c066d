/- Levels and positions in words. No condition but each theorem's own. -/
import Derived.Test.YtbpmcjndlbkkiaaLatPure
import Derived.Test.YtbpmcjndlbkkiaaOwnV
import Derived.Test.YtbpmcjndlbkkiaaShelf
set_option linter.unusedVariables false
set_option linter.unusedSimpArgs false
namespace Go.Proofs.Ytbpmcjndlbkkiaa
open Go.RowKit

theorem words_join (l : List Int) (h : l ≠ []) : wordsB l = ⟨(Lib.join ((l.map nameI).map (·.data.toList)) (⟨#[32]⟩ : ByteArray).data.toList).toArray⟩ := by
  unfold wordsB
  rw [if_neg h, List.map_map]
  rfl
theorem Ch.cellAt {w w' : World} (h : Ch nob w w') {a : Addr} {v : Value} (hx : w.cell? a = some v) : w'.cell? a = some v := (World.cell?_of_block (h.block _ (World.block_lt_of_cell? w _ hx) (fun h => h))).trans hx
theorem names_take (l : List Int) (k : Nat) (h : k < l.length) : (l.take (k + 1)).map (fun x => Value.string (nameI x)) = (l.take k).map (fun x => Value.string (nameI x)) ++ [Value.string (nameI (l.getD k 0))] := by
  rw [lat_snoc l k h, List.map_append]; rfl

theorem lat_names (v : Value) (l : List Int) (w : World) (hl : Ints w v l) (hn : l.length ≤ 1000) : Calls Try.prog 20 #[v] w fun e w' => e = .returned (.string (wordsB l)) ∧ Ch nob w w' := by
  obtain ⟨A, c, rfl⟩ := hl.shape
  have HL := Lib.hid hl
  clear hl
  go_enter Try.func20, Try.ntmps20
  by_cases h0 : l = []
  · subst h0
    have hw := Lib.hid (show wordsB [] = ⟨#[45]⟩ from rfl)
    go_wp2_with fail
    go_ret
    exact ⟨by rw [hw.out]; rfl, Ch.refl _ _⟩
  · have hpos : 0 < l.length := List.length_pos_iff.2 h0
    have hne : ((l.length : Int) == 0) = false := by simp; exact h0
    have HJ := Lib.hid (words_join l h0)
    have hwl := wordsB_len l
    clear h0
    go_wp2_with fail
    go_loopw [3, 11] (fun o q wr => ∃ k : Nat, q = .int .i64 k ∧ k ≤ l.length ∧ OwnV wr w.heap.size 9 o ((l.take k).map fun x => .string (nameI x)) ∧ Ch nob w wr) (fun _ q _ => l.length - (intOf q).toNat)
    case atStart => exact ⟨0, rfl, by omega, OwnV.nil _ _ _, Ch.refl _ _⟩
    case round =>
      obtain ⟨k, rfl, hk, ho, hc⟩ := hrel
      by_cases hlt : k < l.length
      · have hd : decide ((k : Int) < (l.length : Int)) = true := decide_eq_true (by omega)
        obtain ⟨_, _, hcells⟩ := (HL.out.keep hc).at
        obtain ⟨ad, rfl, hx⟩ := hcells k hlt
        clear hcells
        have HT := Lib.hid (names_take l k hlt)
        generalize l.getD k 0 = z at hx HT
        go_wp2_with fail
        refine (name_level _ _).mono ?_
        rintro e w1 ⟨rfl, hc1⟩
        have ho1 := Lib.hid ((ho.keep hc1).alloc (.cells #[.string (nameI z)] 9))
        have hc2 := Lib.hid ((hc.seq hc1).alloc (.cells #[.string (nameI z)] 9))
        have hnb := Lib.hid (Blk.new w1 #[.string (nameI z)] 9)
        have hge := hc2.out.size
        have hge1 := (hc.seq hc1).size
        have hle : ((l.take k).map fun x => Value.string (nameI x)).length ≤ 1000 := by rw [List.length_map]; exact Nat.le_trans (List.length_take_le _ _) (by omega)
        clear hx ho hc hc1
        go_wp2_with (at_builtin; refine wpList_append_val rfl (.tmp 15) (.tmp 18) 50 9 rfl (.string ⟨#[]⟩) 16 elem_string rfl (by decide) w.heap.size u3 _ rfl ho1.out w1.heap.size (.string (nameI z)) 9 rfl hnb.out rfl (by omega) (by omega) ?_; intro v' w' hown hg; have hc3 := hc2.out.grown_own hg (fun b hb => (ho1.out.ge b hb).1); have hown2 : OwnV w' w.heap.size 9 v' ((l.take (k + 1)).map fun x => .string (nameI x)) := (by rw [HT.out]; exact hown); clear hown hg)
        go_roundw
        case rel => exact ⟨k + 1, by go_num, by omega, hown2, hc3⟩
        case measure => simp [intOf]; omega
      · have hfull : l.take k = l := List.take_of_length_le (by omega)
        rw [hfull] at ho
        have hxs : (l.map fun x => Value.string (nameI x)) = (l.map nameI).map Value.string := by rw [List.map_map]; rfl
        rcases ho.read with ⟨_, h1⟩ | ⟨g, cc, rfl, _, hg, hcc, hcell⟩
        · have := congrArg List.length h1
          rw [List.length_map, List.length_nil] at this
          omega
        · rw [List.length_map] at hcc
          have hcell2 : ∀ (j : Nat) x, (l.map nameI)[j]? = some x → wr.cell? ⟨g, 0 + j, none⟩ = some (.string x) := fun j x hx => hcell j _ (by rw [hxs, List.getElem?_map, hx]; rfl)
          have HC := Lib.hid hcell2
          clear hcell hcell2 ho hxs
          have hlen : (Lib.join ((l.map nameI).map (·.data.toList)) (⟨#[32]⟩ : ByteArray).data.toList).length ≤ 140737488355328 := by
            have h2 : (wordsB l).size = (Lib.join ((l.map nameI).map (·.data.toList)) (⟨#[32]⟩ : ByteArray).data.toList).length := by rw [HJ.out]; simp [ByteArray.size]
            omega
          have HJL := Lib.hid hlen
          clear hlen
          rw [List.length_map]
          go_wp2_with fail
          have hjo := Try.strings_Join g 0 cc (l.map nameI) ⟨#[32]⟩ wr HC.out hg (by rw [List.length_map]; omega) (by rw [List.length_map]; exact hcc) HJL.out
          rw [List.length_map] at hjo
          refine hjo.mono ?_
          rintro e w1 ⟨rfl, hb⟩
          have hc1 := hc.seq (Ch.of_below hb)
          rw [← HJ.out]
          go_wp2_with fail
          go_ret
          exact ⟨rfl, hc1⟩

theorem names_held (v : Value) (l : List Int) {w w1 w2 : World} {p0 p1 : Addr} {x0 x1 : Value} (hl : Ints w v l) (hn : l.length ≤ 1000) (hc : Ch nob w w1) (h : Ch nob w1 w2 ∧ w2.cell? p0 = some x0 ∧ w2.cell? p1 = some x1) :
    Calls Try.prog 20 #[v] w2 fun e w3 => e = .returned (.string (wordsB l)) ∧ Ch nob w1 w3 ∧ w3.cell? p0 = some x0 ∧ w3.cell? p1 = some x1 := by
  refine (lat_names v l w2 (hl.keep (hc.seq h.1)) hn).mono ?_
  rintro e w3 ⟨rfl, hc3⟩
  exact ⟨rfl, h.1.seq hc3, hc3.cellAt h.2.1, hc3.cellAt h.2.2⟩
/-- A position in words. -/
def textB (S L : List Int) : ByteArray := ⟨#[115, 116, 114, 111, 110, 103, 101, 115, 116, 32]⟩ ++ wordsB S ++ ⟨#[10, 98, 101, 121, 111, 110, 100, 32]⟩ ++ wordsB L ++ ⟨#[10]⟩
theorem lat_text (v u : Value) (S L : List Int) (w : World) (hS : Ints w v S) (hL : Ints w u L) (hn : S.length ≤ 1000) (hm : L.length ≤ 1000) :
    Calls Try.prog 11 #[.agg #[v, u]] w fun e w' => e = .returned (.string (textB S L)) ∧ Ch nob w w' := by
  have h1 := wordsB_len S
  have h2 := wordsB_len L
  have q1 : ¬ 9223372036854775807 < 10 + (wordsB S).size := by omega
  have q2 : ¬ 9223372036854775807 < 10 + (wordsB S).size + 8 := by omega
  have q3 : ¬ 9223372036854775807 < 10 + (wordsB S).size + 8 + (wordsB L).size := by omega
  have q4 : ¬ 9223372036854775807 < 10 + (wordsB S).size + 8 + (wordsB L).size + 1 := by omega
  clear h1 h2
  obtain ⟨a1, c1, rfl⟩ := hS.shape
  obtain ⟨a2, c2, rfl⟩ := hL.shape
  obtain ⟨hb0, hc0, hs0⟩ := one_new w #[.slice a1 S.length c1, .slice a2 L.length c2] 32
  have hx0 := hb0.cell (i := 0) (v := .slice a1 S.length c1) rfl
  have hx1 := hb0.cell (i := 1) (v := .slice a2 L.length c2) rfl
  go_enter Try.func11, Try.ntmps11
  go_wp2_with fail
  generalize w.alloc _ = w1 at hb0 hc0 hs0 hx0 hx1 ⊢
  have hr1 := Ch.refl nob w1
  clear hb0
  go_region_held3 (fun w' => Ch nob w1 w' ∧ w'.cell? ⟨w.heap.size, 0, none⟩ = some (.slice a1 S.length c1) ∧ w'.cell? ⟨w.heap.size, 1, none⟩ = some (.slice a2 L.length c2)) (first | exact ⟨hr1.drew, hx0, hx1⟩ | assumption)
    (first | (go_at_call 20; with_reducible refine Calls.mono (names_held (.slice a1 S.length c1) S hS hn hc0 (by assumption)) ?_; rintro e w5 ⟨rfl, h5⟩) | (go_at_call 20; with_reducible refine Calls.mono (names_held (.slice a2 L.length c2) L hL hm hc0 (by assumption)) ?_; rintro e w5 ⟨rfl, h5⟩))
  all_goals
    go_wp2_with fail
    go_ret
    exact ⟨rfl, hc0.seq (And.left (by assumption))⟩
end Go.Proofs.Ytbpmcjndlbkkiaa
