/- Slices of pairs of ints, and the reference's relations over them. No condition but each theorem's own. -/
import Derived.Test.YtbpmcjndlbkkiaaDoorRel
set_option linter.unusedVariables false
set_option linter.unusedSimpArgs false
namespace Go.Proofs.YtbpmcjndlbkkiaaDoor
open Go.RowKit

abbrev IPair := Int × Int
/-- A slice value reads as this list of pairs; nil and empty ones alike. -/
def Pairs (w : World) (v : Value) (xs : List IPair) : Prop :=
  ∃ A c, v = .slice A xs.length c ∧ xs.length ≤ 9223372036854775807 ∧ (0 < xs.length → ∃ ad, A = some ad ∧ ∀ j, j < xs.length → w.cell? (ad.add (j * 2)) = some (.int .i64 (xs.getD j (0, 0)).1) ∧ w.cell? ⟨(ad.add (j * 2)).block, (ad.add (j * 2)).off + 1, none⟩ = some (.int .i64 (xs.getD j (0, 0)).2))
theorem Pairs.ch {S : Nat → Prop} {w w' : World} {v : Value} {xs : List IPair} (h : Pairs w v xs) (hc : Ch S w w') (hn : ∀ b, v.ownBlock = some b → ¬ S b) : Pairs w' v xs := by
  obtain ⟨A, c, rfl, hl, hx⟩ := h
  refine ⟨A, c, rfl, hl, fun h0 => ?_⟩
  obtain ⟨ad, rfl, hcell⟩ := hx h0
  refine ⟨ad, rfl, fun j hj => ?_⟩
  have keep : ∀ p v, p.block = ad.block → w.cell? p = some v → w'.cell? p = some v := fun p v hp h1 => by
    have hb := World.block_lt_of_cell? w _ h1
    rw [hp] at hb
    exact (World.cell?_of_block (by rw [hp]; exact hc.block _ hb (hn _ rfl))).trans h1
  exact ⟨keep _ _ (add_block _ _) (hcell j hj).1, keep _ _ (add_block _ _) (hcell j hj).2⟩
theorem Pairs.keep {w w' : World} {v : Value} {xs : List IPair} (h : Pairs w v xs) (hc : Ch nob w w') : Pairs w' v xs := h.ch hc (fun _ _ h => h)
theorem Pairs.shape {w : World} {v : Value} {xs : List IPair} (h : Pairs w v xs) : ∃ A c, v = .slice A xs.length c := by
  obtain ⟨A, c, rfl, _, _⟩ := h; exact ⟨A, c, rfl⟩
theorem Pairs.at {w : World} {A : Option Addr} {c n : Nat} {xs : List IPair} (h : Pairs w (.slice A n c) xs) : n = xs.length ∧ xs.length ≤ 9223372036854775807 ∧ ∀ j, j < xs.length → ∃ ad, A = some ad ∧ w.cell? (ad.add (j * 2)) = some (.int .i64 (xs.getD j (0, 0)).1) ∧ w.cell? ⟨(ad.add (j * 2)).block, (ad.add (j * 2)).off + 1, none⟩ = some (.int .i64 (xs.getD j (0, 0)).2) := by
  obtain ⟨A', c', hv, hl, hx⟩ := h
  simp only [Value.slice.injEq] at hv
  obtain ⟨rfl, rfl, rfl⟩ := hv
  refine ⟨rfl, hl, fun j hj => ?_⟩
  obtain ⟨ad, h1, h2⟩ := hx (by omega)
  exact ⟨ad, h1, h2 j hj⟩

def hasP (l : List IPair) (a b : Int) : Bool := l.any fun p => p.1 == a && p.2 == b
theorem has_ref02 (v : Value) (l : List IPair) (a b : Int) (w : World) (hl : Pairs w v l) : Calls Tryd.prog 12 #[v, .int .i64 a, .int .i64 b] w fun e w' => e = .returned (.bool (hasP l a b)) ∧ w = w' := by
  obtain ⟨A, c, rfl⟩ := hl.shape
  obtain ⟨_, hlen, hcells⟩ := hl.at
  have HC := Lib.hid hcells
  clear hcells hl
  go_enter Tryd.func12, Tryd.ntmps12
  go_wp2_with fail
  go_loop [7] (fun q => ∃ i : Nat, q = .int .i64 i ∧ i ≤ l.length ∧ Hid (∀ j, j < i → ((l.getD j (0, 0)).1 == a && (l.getD j (0, 0)).2 == b) = false)) (fun q => l.length - (intOf q).toNat)
  case atStart => exact ⟨0, rfl, by omega, Lib.hid (fun j hj => by omega)⟩
  case round =>
    obtain ⟨i, rfl, hi, hn⟩ := hrel
    by_cases hlt : i < l.length
    · have hd : decide ((i : Int) < (l.length : Int)) = true := decide_eq_true (by omega)
      obtain ⟨ad, rfl, hx, hy⟩ := HC.out i hlt
      obtain ⟨p, hp⟩ : ∃ p, l.getD i (0, 0) = p := ⟨_, rfl⟩
      rw [hp] at hx hy
      have HP := Lib.hid hp
      clear hp
      cases h1 : p.1 == a
      · have hn2 : Hid (∀ j, j < i + 1 → ((l.getD j (0, 0)).1 == a && (l.getD j (0, 0)).2 == b) = false) := Lib.hid (fun j hj => by
          by_cases h : j = i
          · rw [h, HP.out, h1]; rfl
          · exact hn.out j (by omega))
        go_wp2_with fail
        go_round
        case rel => exact ⟨i + 1, by go_num, by omega, hn2⟩
        case measure => simp [intOf]; omega
      · cases h2 : p.2 == b
        · have hn2 : Hid (∀ j, j < i + 1 → ((l.getD j (0, 0)).1 == a && (l.getD j (0, 0)).2 == b) = false) := Lib.hid (fun j hj => by
            by_cases h : j = i
            · rw [h, HP.out, h1, h2]; rfl
            · exact hn.out j (by omega))
          go_wp2_with fail
          go_round
          case rel => exact ⟨i + 1, by go_num, by omega, hn2⟩
          case measure => simp [intOf]; omega
        · have HF := Lib.hid (show hasP l a b = true from by
            unfold hasP
            rw [List.any_eq_true]
            refine ⟨p, ?_, by rw [h1, h2]; rfl⟩
            have := HP.out
            rw [List.getD_eq_getElem?_getD, List.getElem?_eq_getElem hlt] at this
            rw [← this]
            exact List.getElem_mem hlt)
          go_wp2_with fail
          go_ret
          exact ⟨ret_bool HF.out.symm, rfl⟩
    · have HF := Lib.hid (show hasP l a b = false from by
        unfold hasP
        rw [List.any_eq_false]
        intro p hp
        obtain ⟨j, hj, rfl⟩ := List.getElem_of_mem hp
        have := hn.out j (by omega)
        rw [List.getD_eq_getElem?_getD, List.getElem?_eq_getElem hj] at this
        simpa using this)
      have hd : decide ((i : Int) < (l.length : Int)) = false := decide_eq_false (by omega)
      go_wp2_with fail
      go_ret
      exact ⟨ret_bool HF.out.symm, rfl⟩

def rightP (a b : Int) : Bool := inS a && inS b
theorem right_ref02 (a b : Int) (w : World) : Calls Tryd.prog 18 #[.agg #[.int .i64 a, .int .i64 b]] w fun e w' => e = .returned (.bool (rightP a b)) ∧ Ch nob w w' := by
  obtain ⟨hb, hc, _⟩ := one_new w #[.int .i64 a, .int .i64 b] 42
  have HE := Lib.hid (show rightP a b = (decide (0 ≤ a) && decide (a < 64) && decide (0 ≤ b) && decide (b < 64)) from by unfold rightP inS; rw [Bool.eq_iff_iff]; simp; omega)
  go_enter Tryd.func18, Tryd.ntmps18
  go_wp2_with fail
  all_goals
    go_ret
    exact ⟨ret_bool (by rw [HE.out]; simp [*] <;> omega), hc⟩
end Go.Proofs.YtbpmcjndlbkkiaaDoor
