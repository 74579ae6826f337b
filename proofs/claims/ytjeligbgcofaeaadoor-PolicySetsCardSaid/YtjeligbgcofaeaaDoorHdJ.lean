/- A slice literal of one header. -/
import Derived.Test.YtjeligbgcofaeaaDoorHdI
import Derived.Great.BuildSlice
namespace Go.Proofs.YtjeligbgcofaeaaDoor
open Go.RowKit
set_option linter.unusedVariables false
set_option linter.unusedSimpArgs false

set_option maxRecDepth 100000 in
theorem wpList_build_hdr {ops : Array Oper} {rest : List Oper} {o : Oper} {a : Act} {w : World} {Q : Exit → Act → World → Prop} (hg : o.guard = none) (x : Operand) (ho : o.op = .buildSlice 47 1 #[(0, x)]) (h : Hdr) (hx : a.eval x = .agg h.vals.toArray)
    (k : wpList Tryd.prog ops Q rest (a.put o.dst (.slice (some ⟨w.heap.size, 0, none⟩) 1 1)) (w.alloc (.cells h.vals.toArray 31))) : wpList Tryd.prog ops Q (o :: rest) a w := by
  obtain ⟨ic, hic, hc0, hc1, hc2⟩ := info_parts hdr_info
  refine wpList_buildSlice hg 47 31 1 #[(0, x)] ho h.vals.toArray ic _ Tryd.underlying47 hic hc0 (by rw [hc1]; decide) (by rw [hc1]; decide) ?_ k
  rw [hc1]
  simp only [List.map_toArray, List.map_cons, List.map_nil, hx]
  kernel_rfl
end Go.Proofs.YtjeligbgcofaeaaDoor
