/- Two rows of operations that are one (burgagelaw05.Same). No condition but each theorem's own. -/
import Derived.Test.YtobfanodjdkkoaaDoorOpl
import Derived.Test.YtobfanodjdkkoaaDoorCh
set_option linter.unusedVariables false
set_option linter.unusedSimpArgs false
namespace Go.Proofs.YtobfanodjdkkoaaDoor
open Go.RowKit

set_option maxRecDepth 100000 in
set_option maxHeartbeats 2000000 in
theorem same_law05 (w : World) (u v : Value) (xs : List Opn) (hu : Opl w u xs) (hv : Opl w v xs) :
    Calls Tryd.prog 12 #[u, v] w fun e w' => e = .returned (.int .i64 1) ∧ Ch nob w w' := by
  obtain ⟨A1, c1, rfl⟩ := hu.shape
  obtain ⟨A2, c2, rfl⟩ := hv.shape
  obtain ⟨l, hl⟩ : ∃ l, xs.length = l := ⟨_, rfl⟩
  have hll : l ≤ 9223372036854775807 := by have := hu.at.2.1.2; rw [hl] at this; exact this
  rw [hl] at hu hv ⊢
  have HL := Lib.hid hl
  have HU := Lib.hid hu
  have HV := Lib.hid hv
  have n4 : ((l : Int) != (l : Int)) = false := by simp
  clear hl hu hv
  go_enter Tryd.func12, Tryd.ntmps12
  go_wp2_with fail
  go_loopw [13] (fun x wr => ∃ j : Nat, x = .int .i64 j ∧ j ≤ l ∧ Ch nob w wr) (fun x _ => l - (intOf x).toNat)
  case atStart => exact ⟨0, rfl, Nat.zero_le _, Ch.refl _ _⟩
  case round =>
    obtain ⟨j, rfl, hj, hc⟩ := hrel
    by_cases hlt : j < l
    · have hd : decide ((j : Int) < (l : Int)) = true := decide_eq_true (by omega)
      obtain ⟨ad1, rfl, hx0, hx1, hx2⟩ := (HU.out.keep hc).at.2.2 j (by rw [HL.out]; exact hlt)
      obtain ⟨ad2, rfl, hy0, hy1, hy2⟩ := (HV.out.keep hc).at.2.2 j (by rw [HL.out]; exact hlt)
      obtain ⟨x, hx⟩ : ∃ x, xs.getD j opZero = x := ⟨_, rfl⟩
      rw [hx] at hx0 hx1 hx2 hy0 hy1 hy2
      obtain ⟨xw, xk, xv⟩ := x
      dsimp only at hx0 hx1 hx2 hy0 hy1 hy2
      have X2 := fun q : Ext wr => Ext.cell hx0 q
      have X3 := fun q : Ext wr => Ext.cell hx1 q
      have X4 := fun q : Ext wr => Ext.cell hx2 q
      have X5 := fun q : Ext wr => Ext.cell hy0 q
      have X6 := fun q : Ext wr => Ext.cell hy1 q
      have X7 := fun q : Ext wr => Ext.cell hy2 q
      clear hx
      go_wp2_with fail
      refine wp_region_ch (w0 := wr) (by kernel_rfl) (by kernel_rfl) (Ch.refl _ _) ?_
      repeat go_big_quiet_step (fail)
      refine wpQuiet_nil ?_
      rintro wq ⟨⟨_, hcq⟩, rfl⟩
      have hc2 := hc.seq hcq
      clear X2 X3 X4 X5 X6 X7 hx0 hx1 hx2 hy0 hy1 hy2 hc hcq
      go_wp2_with fail
      go_roundw
      case rel => exact ⟨j + 1, by go_num, by omega, hc2⟩
      case measure => simp [intOf]; omega
    · have hd : decide ((j : Int) < (l : Int)) = false := decide_eq_false (by omega)
      go_wp2_with fail
      go_ret
      exact ⟨rfl, hc⟩
end Go.Proofs.YtobfanodjdkkoaaDoor
