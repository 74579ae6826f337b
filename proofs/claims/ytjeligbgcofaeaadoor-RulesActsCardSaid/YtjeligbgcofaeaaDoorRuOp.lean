/- Acts, read out of an argument. -/
import Derived.Test.YtjeligbgcofaeaaDoorHdOp
import Derived.Test.YtjeligbgcofaeaaDoorRuA
namespace Go.Proofs.YtjeligbgcofaeaaDoor
open Go.RowKit Go.WideShapes Go.ChangeShapes Go.Deep
set_option linter.unusedVariables false

def actR : Rep Act9 := fun _ _ cs a => cs = a.vals ∧ a.Fits
set_option maxRecDepth 100000 in
theorem opens_act (w : World) : Opens Tryd.prog w 25 actR (fun _ => 0) := by
  intro H enc base spare held fuel cs x h
  obtain ⟨ys, n, rfl, rfl, hl, hyl, hg⟩ := DataW.trod_struct Tryd.underlying25 h
  have hl2 : cs.length = 10 := hl.trans (by kernel_rfl)
  match cs, hl2 with
  | [c0, c1, c2, c3, c4, c5, c6, c7, c8, c9], _ =>
    match ys, hyl with
    | [y0, y1], _ =>
      have h0 : DataW.trod enc Tryd.prog w base spare held n 3 [c0] = some y0 := hg 0 _ rfl
      have h1 : DataW.trod enc Tryd.prog w base spare held n 23 [c1, c2, c3, c4, c5, c6, c7, c8, c9] = some y1 := hg 1 _ rfl
      obtain ⟨s, ⟨e0, b0⟩, _⟩ := opens_int (k := .i64) (w := w) Tryd.underlying3 enc base spare held n _ _ h0
      obtain ⟨a0, a1, a2, a3, a4, a5, a6, a7, a8, e1, b1⟩ := opens_nine Tryd.underlying23 Tryd.underlying22 (by kernel_rfl) (by kernel_rfl) h1
      cases e0
      cases e1
      refine ⟨⟨s, a0, a1, a2, a3, a4, a5, a6, a7, a8⟩, ⟨rfl, ⟨i64_bounds b0, fun k => ?_⟩⟩, Nat.zero_le _⟩
      match k with
      | 0 => exact b1 a0 (by simp)
      | 1 => exact b1 a1 (by simp)
      | 2 => exact b1 a2 (by simp)
      | 3 => exact b1 a3 (by simp)
      | 4 => exact b1 a4 (by simp)
      | 5 => exact b1 a5 (by simp)
      | 6 => exact b1 a6 (by simp)
      | 7 => exact b1 a7 (by simp)
      | 8 => exact b1 a8 (by simp)
      | k + 9 => exact ⟨by show (0 : Int) ≤ 0; omega, by show (0 : Int) ≤ _; omega⟩
end Go.Proofs.YtjeligbgcofaeaaDoor
