/- Prefixes, read out of an argument. -/
import Derived.Test.YthiodgnklfbmjaaOpen
import Derived.Test.YthiodgnklfbmjaaPsA
namespace Go.Proofs.Ythiodgnklfbmjaa
open Go.RowKit Go.WideShapes Go.ChangeShapes Go.Deep
set_option linter.unusedVariables false

set_option maxRecDepth 100000 in
theorem opens_pfx (w : World) : Opens Try.prog w 35 pfxR (fun _ => 0) := by
  intro H enc base spare held fuel cs x h
  obtain ⟨ys, n, rfl, rfl, hl, hyl, hg⟩ := DataW.trod_struct Try.underlying35 h
  have hl2 : cs.length = 2 := hl.trans (by kernel_rfl)
  match cs, hl2 with
  | [c0, c1], _ =>
    match ys, hyl with
    | [y0, y1], _ =>
      have h0 : DataW.trod enc Try.prog w base spare held n 33 [c0] = some y0 := hg 0 _ rfl
      have h1 : DataW.trod enc Try.prog w base spare held n 3 [c1] = some y1 := hg 1 _ rfl
      obtain ⟨a, ⟨ha, hab⟩, _⟩ := opens_int (k := .u32) (w := w) Try.underlying33 enc base spare held n _ _ h0
      obtain ⟨b, ⟨hb, hbb⟩, _⟩ := opens_int (k := .i64) (w := w) Try.underlying3 enc base spare held n _ _ h1
      cases ha
      cases hb
      exact ⟨⟨a, b⟩, ⟨rfl, ⟨u32_bounds hab, i64_bounds hbb⟩⟩, Nat.zero_le _⟩
theorem opens_pfxs (w : World) : Opens Try.prog w 22 (listR 2 pfxR) (listMu fun _ => 0) :=
  opens_slice pfxR_ok (by omega) Try.underlying22 (by kernel_rfl) (opens_pfx w)
theorem opens_pfxss (w : World) : Opens Try.prog w 23 (listR 1 (listR 2 pfxR)) (listMu (listMu fun _ => 0)) :=
  opens_slice (listR_ok pfxR_ok) (by omega) Try.underlying23 (by kernel_rfl) (opens_pfxs w)
end Go.Proofs.Ythiodgnklfbmjaa
