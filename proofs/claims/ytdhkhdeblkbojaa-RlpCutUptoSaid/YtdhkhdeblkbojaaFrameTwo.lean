/- From the form's reading of two items to RdI. -/
import Derived.Test.YtdhkhdeblkbojaaFrameItem
namespace Go.Proofs.Ytdhkhdeblkbojaa
open Go.ChangeShapes Go.WideShapes Go.ChangeAt Go.RowKit Go.Deep
theorem six_of {cs : List Value} (h : cs.length = 6) : ∃ v0 v1 v2 v3 v4 v5, cs = [v0, v1, v2, v3, v4, v5] := by
  match cs, h with
  | [a, b, c, d, e, f], _ => exact ⟨a, b, c, d, e, f, rfl⟩
set_option maxRecDepth 100000 in
theorem view_two {H : Type} {enc : TypeId × Value → H} {W : World} {base : Nat} {spare : Nat → Bool} {held : Bool} {fuel : Nat} {cs : List Value} {x : DataW H × List MemPlace}
    (h : DataW.trod enc Try.prog W base spare held fuel 61 cs = some x) : ∃ v0 v1 v2 it sv u0 u1 u2 jt tv, cs = [v0, v1, v2, u0, u1, u2] ∧ RdI W (fun _ => True) v0 v1 v2 it sv ∧ RdI W (fun _ => True) u0 u1 u2 jt tv ∧ wtI it + wtI jt ≤ 16 * Rows.uptoBulk x.1 := by
  obtain ⟨y0, y1, n, rfl, hl, h0, h1⟩ := trod_struct2 Try.underlying61 h
  have hc6 : Try.prog.cellsOf 61 = 6 := by kernel_rfl
  have hc3 : Try.prog.cellsOf 42 = 3 := by kernel_rfl
  rw [hc6] at hl
  obtain ⟨v0, v1, v2, u0, u1, u2, rfl⟩ := six_of hl
  change DataW.trod enc Try.prog W base spare held n 42 (([v0, v1, v2, u0, u1, u2].drop 0).take (Try.prog.cellsOf 42)) = _ at h0
  change DataW.trod enc Try.prog W base spare held n 42 (([v0, v1, v2, u0, u1, u2].drop 3).take (Try.prog.cellsOf 42)) = _ at h1
  rw [hc3] at h0 h1
  obtain ⟨a0, a1, a2, it, sv, e1, r1, w1⟩ := view_item _ n _ y0 h0 (Nat.le_refl _)
  obtain ⟨b0, b1, b2, jt, tv, e2, r2, w2⟩ := view_item _ n _ y1 h1 (Nat.le_refl _)
  simp at e1 e2
  obtain ⟨rfl, rfl, rfl⟩ := e1
  obtain ⟨rfl, rfl, rfl⟩ := e2
  have hbk : Rows.uptoBulk (DataW.agg [y0.1, y1.1]) = 1 + (Rows.uptoBulk y0.1 + (Rows.uptoBulk y1.1 + 0)) := by simp only [Rows.uptoBulk, Rows.uptoBulkAll]; try omega
  exact ⟨_, _, _, it, sv, _, _, _, jt, tv, rfl, r1, r2, by simp only [hbk]; omega⟩
end Go.Proofs.Ytdhkhdeblkbojaa
