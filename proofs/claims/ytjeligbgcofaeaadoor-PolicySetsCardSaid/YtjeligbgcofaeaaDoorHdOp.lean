/- Headers and acts, read out of an argument; the table of widths, read out of what the row lists. -/
import Derived.Test.YtjeligbgcofaeaaDoorOpen
import Derived.Test.YtjeligbgcofaeaaDoorHdF
import Derived.LaidMore
import Derived.Lay
import Derived.LaidOnce
namespace Go.Proofs.YtjeligbgcofaeaaDoor
open Go.RowKit Go.WideShapes Go.ChangeShapes Go.Deep
set_option linter.unusedVariables false

theorem opens_six {P : Program} {w : World} {T E : TypeId} (hT : P.underlying T = some (.array 6 E)) (hE : P.underlying E = some (.int .u8)) (hC : P.cellsOf E = 1) (hCT : P.cellsOf T = 6) {H : Type} {enc : TypeId × Value → H} {base : Nat} {spare : Nat → Bool} {held : Bool} {fuel : Nat} {cs : List Value} {x : DataW H × List MemPlace} (h : DataW.trod enc P w base spare held fuel T cs = some x) :
    ∃ a0 a1 a2 a3 a4 a5 : Int, cs = [.int .u8 a0, .int .u8 a1, .int .u8 a2, .int .u8 a3, .int .u8 a4, .int .u8 a5] ∧ ∀ b ∈ [a0, a1, a2, a3, a4, a5], IntKind.u8.min ≤ b ∧ b ≤ IntKind.u8.max := by
  obtain ⟨xs, m, _, _, hlen, hl, hel⟩ := DataW.trod_array hT h
  rw [hCT] at hlen
  match cs, hlen with
  | [c0, c1, c2, c3, c4, c5], _ =>
    match xs, hl with
    | [x0, x1, x2, x3, x4, x5], _ =>
      have k0 := hel 0 (by omega)
      rw [hC] at k0
      obtain ⟨a0, e0, _, w0⟩ := DataW.trod_int hE k0
      have k1 := hel 1 (by omega)
      rw [hC] at k1
      obtain ⟨a1, e1, _, w1⟩ := DataW.trod_int hE k1
      have k2 := hel 2 (by omega)
      rw [hC] at k2
      obtain ⟨a2, e2, _, w2⟩ := DataW.trod_int hE k2
      have k3 := hel 3 (by omega)
      rw [hC] at k3
      obtain ⟨a3, e3, _, w3⟩ := DataW.trod_int hE k3
      have k4 := hel 4 (by omega)
      rw [hC] at k4
      obtain ⟨a4, e4, _, w4⟩ := DataW.trod_int hE k4
      have k5 := hel 5 (by omega)
      rw [hC] at k5
      obtain ⟨a5, e5, _, w5⟩ := DataW.trod_int hE k5
      obtain rfl : c0 = .int .u8 a0 := by simpa using e0
      obtain rfl : c1 = .int .u8 a1 := by simpa using e1
      obtain rfl : c2 = .int .u8 a2 := by simpa using e2
      obtain rfl : c3 = .int .u8 a3 := by simpa using e3
      obtain rfl : c4 = .int .u8 a4 := by simpa using e4
      obtain rfl : c5 = .int .u8 a5 := by simpa using e5
      refine ⟨a0, a1, a2, a3, a4, a5, rfl, ?_⟩
      intro b hb
      simp only [List.mem_cons, List.not_mem_nil, or_false] at hb
      rcases hb with rfl | rfl | rfl | rfl | rfl | rfl
      · exact wf_bounds w0
      · exact wf_bounds w1
      · exact wf_bounds w2
      · exact wf_bounds w3
      · exact wf_bounds w4
      · exact wf_bounds w5
theorem opens_nine {P : Program} {w : World} {T E : TypeId} (hT : P.underlying T = some (.array 9 E)) (hE : P.underlying E = some (.int .u64)) (hC : P.cellsOf E = 1) (hCT : P.cellsOf T = 9) {H : Type} {enc : TypeId × Value → H} {base : Nat} {spare : Nat → Bool} {held : Bool} {fuel : Nat} {cs : List Value} {x : DataW H × List MemPlace} (h : DataW.trod enc P w base spare held fuel T cs = some x) :
    ∃ a0 a1 a2 a3 a4 a5 a6 a7 a8 : Int, cs = [.int .u64 a0, .int .u64 a1, .int .u64 a2, .int .u64 a3, .int .u64 a4, .int .u64 a5, .int .u64 a6, .int .u64 a7, .int .u64 a8] ∧ ∀ b ∈ [a0, a1, a2, a3, a4, a5, a6, a7, a8], IntKind.u64.min ≤ b ∧ b ≤ IntKind.u64.max := by
  obtain ⟨xs, m, _, _, hlen, hl, hel⟩ := DataW.trod_array hT h
  rw [hCT] at hlen
  match cs, hlen with
  | [c0, c1, c2, c3, c4, c5, c6, c7, c8], _ =>
    match xs, hl with
    | [x0, x1, x2, x3, x4, x5, x6, x7, x8], _ =>
      have k0 := hel 0 (by omega)
      rw [hC] at k0
      obtain ⟨a0, e0, _, w0⟩ := DataW.trod_int hE k0
      have k1 := hel 1 (by omega)
      rw [hC] at k1
      obtain ⟨a1, e1, _, w1⟩ := DataW.trod_int hE k1
      have k2 := hel 2 (by omega)
      rw [hC] at k2
      obtain ⟨a2, e2, _, w2⟩ := DataW.trod_int hE k2
      have k3 := hel 3 (by omega)
      rw [hC] at k3
      obtain ⟨a3, e3, _, w3⟩ := DataW.trod_int hE k3
      have k4 := hel 4 (by omega)
      rw [hC] at k4
      obtain ⟨a4, e4, _, w4⟩ := DataW.trod_int hE k4
      have k5 := hel 5 (by omega)
      rw [hC] at k5
      obtain ⟨a5, e5, _, w5⟩ := DataW.trod_int hE k5
      have k6 := hel 6 (by omega)
      rw [hC] at k6
      obtain ⟨a6, e6, _, w6⟩ := DataW.trod_int hE k6
      have k7 := hel 7 (by omega)
      rw [hC] at k7
      obtain ⟨a7, e7, _, w7⟩ := DataW.trod_int hE k7
      have k8 := hel 8 (by omega)
      rw [hC] at k8
      obtain ⟨a8, e8, _, w8⟩ := DataW.trod_int hE k8
      obtain rfl : c0 = .int .u64 a0 := by simpa using e0
      obtain rfl : c1 = .int .u64 a1 := by simpa using e1
      obtain rfl : c2 = .int .u64 a2 := by simpa using e2
      obtain rfl : c3 = .int .u64 a3 := by simpa using e3
      obtain rfl : c4 = .int .u64 a4 := by simpa using e4
      obtain rfl : c5 = .int .u64 a5 := by simpa using e5
      obtain rfl : c6 = .int .u64 a6 := by simpa using e6
      obtain rfl : c7 = .int .u64 a7 := by simpa using e7
      obtain rfl : c8 = .int .u64 a8 := by simpa using e8
      refine ⟨a0, a1, a2, a3, a4, a5, a6, a7, a8, rfl, ?_⟩
      intro b hb
      simp only [List.mem_cons, List.not_mem_nil, or_false] at hb
      rcases hb with rfl | rfl | rfl | rfl | rfl | rfl | rfl | rfl | rfl
      · exact wf_bounds w0
      · exact wf_bounds w1
      · exact wf_bounds w2
      · exact wf_bounds w3
      · exact wf_bounds w4
      · exact wf_bounds w5
      · exact wf_bounds w6
      · exact wf_bounds w7
      · exact wf_bounds w8
def hdrR : Rep Hdr := fun _ _ cs h => cs = h.vals ∧ h.Fits
set_option maxRecDepth 100000 in
theorem opens_hdr (w : World) : Opens Tryd.prog w 31 hdrR (fun _ => 0) := by
  intro H enc base spare held fuel cs x h
  obtain ⟨ys, n, rfl, rfl, hl, hyl, hg⟩ := DataW.trod_struct Tryd.underlying31 h
  have hl2 : cs.length = 19 := hl.trans (by kernel_rfl)
  match cs, hl2 with
  | [c0, c1, c2, c3, c4, c5, c6, c7, c8, c9, c10, c11, c12, c13, c14, c15, c16, c17, c18], _ =>
    match ys, hyl with
    | [y0, y1, y2, y3, y4, y5, y6, y7, y8], _ =>
      have h0 : DataW.trod enc Tryd.prog w base spare held n 3 [c0] = some y0 := hg 0 _ rfl
      have h1 : DataW.trod enc Tryd.prog w base spare held n 27 [c1, c2, c3, c4, c5, c6] = some y1 := hg 1 _ rfl
      have h2 : DataW.trod enc Tryd.prog w base spare held n 27 [c7, c8, c9, c10, c11, c12] = some y2 := hg 2 _ rfl
      have h3 : DataW.trod enc Tryd.prog w base spare held n 3 [c13] = some y3 := hg 3 _ rfl
      have h4 : DataW.trod enc Tryd.prog w base spare held n 29 [c14] = some y4 := hg 4 _ rfl
      have h5 : DataW.trod enc Tryd.prog w base spare held n 29 [c15] = some y5 := hg 5 _ rfl
      have h6 : DataW.trod enc Tryd.prog w base spare held n 3 [c16] = some y6 := hg 6 _ rfl
      have h7 : DataW.trod enc Tryd.prog w base spare held n 3 [c17] = some y7 := hg 7 _ rfl
      have h8 : DataW.trod enc Tryd.prog w base spare held n 3 [c18] = some y8 := hg 8 _ rfl
      obtain ⟨p, ⟨e0, b0⟩, _⟩ := opens_int (k := .i64) (w := w) Tryd.underlying3 enc base spare held n _ _ h0
      obtain ⟨s0, s1, s2, s3, s4, s5, e1, b1⟩ := opens_six Tryd.underlying27 Tryd.underlying5 (by kernel_rfl) (by kernel_rfl) h1
      obtain ⟨d0, d1, d2, d3, d4, d5, e2, b2⟩ := opens_six Tryd.underlying27 Tryd.underlying5 (by kernel_rfl) (by kernel_rfl) h2
      obtain ⟨t, ⟨e3, b3⟩, _⟩ := opens_int (k := .i64) (w := w) Tryd.underlying3 enc base spare held n _ _ h3
      obtain ⟨si, ⟨e4, b4⟩, _⟩ := opens_int (k := .u32) (w := w) Tryd.underlying29 enc base spare held n _ _ h4
      obtain ⟨di, ⟨e5, b5⟩, _⟩ := opens_int (k := .u32) (w := w) Tryd.underlying29 enc base spare held n _ _ h5
      obtain ⟨pr, ⟨e6, b6⟩, _⟩ := opens_int (k := .i64) (w := w) Tryd.underlying3 enc base spare held n _ _ h6
      obtain ⟨sp, ⟨e7, b7⟩, _⟩ := opens_int (k := .i64) (w := w) Tryd.underlying3 enc base spare held n _ _ h7
      obtain ⟨dp, ⟨e8, b8⟩, _⟩ := opens_int (k := .i64) (w := w) Tryd.underlying3 enc base spare held n _ _ h8
      cases e0
      cases e1
      cases e2
      cases e3
      cases e4
      cases e5
      cases e6
      cases e7
      cases e8
      exact ⟨⟨p, ⟨s0, s1, s2, s3, s4, s5⟩, ⟨d0, d1, d2, d3, d4, d5⟩, t, si, di, pr, sp, dp⟩, ⟨rfl, ⟨i64_bounds b0, b1, b2, i64_bounds b3, u32_bounds b4, u32_bounds b5, i64_bounds b6, i64_bounds b7, i64_bounds b8⟩⟩, Nat.zero_le _⟩
set_option maxRecDepth 100000 in
/-- what the row lists gives the table of widths -/
theorem tab_of_laid {W : World} (h : laidMetH Tryd.prog [("carrefour/head.widths", Rows.laid_carrefour_head_widths)] W) : Tab W := by
  rw [MakeChecks.laidMetH_plain _ _ _ (by kernel_rfl)] at h
  obtain ⟨ps, ⟨g, t, cs, fuel, p, q, hg, ht, hv, hd, _, _⟩, _, _⟩ := h
  obtain rfl := Option.some.inj ((show Tryd.prog.globalNamed "carrefour/head.widths" = some 0 by kernel_rfl).symm.trans hg)
  obtain rfl := Option.some.inj ((show (Tryd.prog.globals[0]?).map (·.type) = some 114 by kernel_rfl).symm.trans ht)
  have c5 : Tryd.prog.cellsOf 3 = 1 := by kernel_rfl
  have c29 : Tryd.prog.cellsOf 114 = 9 := by kernel_rfl
  obtain ⟨xs, m, _, ex, hlen, hl, hel⟩ := DataW.trod_array Tryd.underlying114 hd
  rw [c29] at hlen
  have hcell := fun j => World.var?_cell (show Tryd.prog.globalNamed "carrefour/head.widths" = some 0 by kernel_rfl) hv j
  obtain ⟨l⟩ := cs
  match l, hlen with
  | [z0, z1, z2, z3, z4, z5, z6, z7, z8], _ =>
    match xs, hl with
    | [x0, x1, x2, x3, x4, x5, x6, x7, x8], _ =>
      have e3 := (DataW.agg.inj (Prod.mk.inj ex).1)
      simp only [List.map_cons, List.map_nil, List.cons.injEq, and_true] at e3
      obtain ⟨f0, f1, f2, f3, f4, f5, f6, f7, f8⟩ := e3
      have k0 := hel 0 (by omega)
      rw [c5] at k0
      obtain ⟨n0, a0, b0, _⟩ := DataW.trod_int Tryd.underlying3 k0
      obtain rfl : z0 = .int .i64 n0 := by simpa using a0
      obtain rfl : n0 = 8 := by rw [b0] at f0; simpa using f0.symm
      have k1 := hel 1 (by omega)
      rw [c5] at k1
      obtain ⟨n1, a1, b1, _⟩ := DataW.trod_int Tryd.underlying3 k1
      obtain rfl : z1 = .int .i64 n1 := by simpa using a1
      obtain rfl : n1 = 48 := by rw [b1] at f1; simpa using f1.symm
      have k2 := hel 2 (by omega)
      rw [c5] at k2
      obtain ⟨n2, a2, b2, _⟩ := DataW.trod_int Tryd.underlying3 k2
      obtain rfl : z2 = .int .i64 n2 := by simpa using a2
      obtain rfl : n2 = 48 := by rw [b2] at f2; simpa using f2.symm
      have k3 := hel 3 (by omega)
      rw [c5] at k3
      obtain ⟨n3, a3, b3, _⟩ := DataW.trod_int Tryd.underlying3 k3
      obtain rfl : z3 = .int .i64 n3 := by simpa using a3
      obtain rfl : n3 = 16 := by rw [b3] at f3; simpa using f3.symm
      have k4 := hel 4 (by omega)
      rw [c5] at k4
      obtain ⟨n4, a4, b4, _⟩ := DataW.trod_int Tryd.underlying3 k4
      obtain rfl : z4 = .int .i64 n4 := by simpa using a4
      obtain rfl : n4 = 32 := by rw [b4] at f4; simpa using f4.symm
      have k5 := hel 5 (by omega)
      rw [c5] at k5
      obtain ⟨n5, a5, b5, _⟩ := DataW.trod_int Tryd.underlying3 k5
      obtain rfl : z5 = .int .i64 n5 := by simpa using a5
      obtain rfl : n5 = 32 := by rw [b5] at f5; simpa using f5.symm
      have k6 := hel 6 (by omega)
      rw [c5] at k6
      obtain ⟨n6, a6, b6, _⟩ := DataW.trod_int Tryd.underlying3 k6
      obtain rfl : z6 = .int .i64 n6 := by simpa using a6
      obtain rfl : n6 = 8 := by rw [b6] at f6; simpa using f6.symm
      have k7 := hel 7 (by omega)
      rw [c5] at k7
      obtain ⟨n7, a7, b7, _⟩ := DataW.trod_int Tryd.underlying3 k7
      obtain rfl : z7 = .int .i64 n7 := by simpa using a7
      obtain rfl : n7 = 16 := by rw [b7] at f7; simpa using f7.symm
      have k8 := hel 8 (by omega)
      rw [c5] at k8
      obtain ⟨n8, a8, b8, _⟩ := DataW.trod_int Tryd.underlying3 k8
      obtain rfl : z8 = .int .i64 n8 := by simpa using a8
      obtain rfl : n8 = 16 := by rw [b8] at f8; simpa using f8.symm
      intro k hk
      rw [hcell k]
      match k, hk with
      | 0, _ => rfl
      | 1, _ => rfl
      | 2, _ => rfl
      | 3, _ => rfl
      | 4, _ => rfl
      | 5, _ => rfl
      | 6, _ => rfl
      | 7, _ => rfl
      | 8, _ => rfl
end Go.Proofs.YtjeligbgcofaeaaDoor
