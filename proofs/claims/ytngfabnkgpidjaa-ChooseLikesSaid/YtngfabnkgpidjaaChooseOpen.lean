/- Candidates, read out of an argument. -/
import Derived.Test.YtngfabnkgpidjaaOpen
import Derived.Test.YtngfabnkgpidjaaChooseA
namespace Go.Proofs.Ytngfabnkgpidjaa
open Go.RowKit Go.WideShapes Go.ChangeShapes Go.Deep
set_option linter.unusedVariables false

def segMu (s : Seg) : Nat := listMu (fun _ => 1) s.row
def otherMu (s : Other) : Nat := listMu (fun _ => 1) s.value
def attrsMu (a : Attrs) : Nat := listMu segMu a.path + listMu (fun _ => 1) a.comms + listMu otherMu a.others
theorem bulkAll_get {H : Type} : ∀ {ys : List (DataW H × List MemPlace)} {i : Nat} {y : DataW H × List MemPlace}, ys[i]? = some y → Rows.uptoBulk y.1 ≤ Rows.uptoBulkAll (ys.map (·.1))
  | [], i, y, h => by simp at h
  | x :: r, 0, y, h => by
    simp at h
    subst h
    simp only [List.map_cons, Rows.uptoBulkAll]
    omega
  | x :: r, i + 1, y, h => by
    have := bulkAll_get (ys := r) (i := i) (y := y) (by simpa using h)
    simp only [List.map_cons, Rows.uptoBulkAll]
    omega

theorem opens_seg (w : World) : Opens Try.prog w 38 segR segMu := by
  intro H enc base spare held fuel cs x h
  obtain ⟨ys, n, rfl, rfl, hl, hyl, hg⟩ := DataW.trod_struct Try.underlying38 h
  have hl2 : cs.length = 2 := hl.trans (by kernel_rfl)
  match cs, hl2 with
  | [c0, c1], _ =>
    match ys, hyl with
    | [y0, y1], _ =>
      have h0 : DataW.trod enc Try.prog w base spare held n 4 [c0] = some y0 := hg 0 _ rfl
      have h1 : DataW.trod enc Try.prog w base spare held n 28 [c1] = some y1 := hg 1 _ rfl
      obtain ⟨b, hb, _⟩ := opens_bool (w := w) Try.underlying4 enc base spare held n _ _ h0
      obtain ⟨l, hli, hm⟩ := opens_slice (intR_ok .i64) (by omega) Try.underlying28 (by kernel_rfl) (opens_int (w := w) Try.underlying3) enc base spare held n _ _ h1
      cases hb
      refine ⟨⟨b, l⟩, ⟨c1, rfl, hli⟩, ?_⟩
      simp only [segMu, List.map_cons, List.map_nil, Rows.uptoBulk, Rows.uptoBulkAll]
      omega
theorem opens_other (w : World) : Opens Try.prog w 68 otherR otherMu := by
  intro H enc base spare held fuel cs x h
  obtain ⟨ys, n, rfl, rfl, hl, hyl, hg⟩ := DataW.trod_struct Try.underlying68 h
  have hl2 : cs.length = 2 := hl.trans (by kernel_rfl)
  match cs, hl2 with
  | [c0, c1], _ =>
    match ys, hyl with
    | [y0, y1], _ =>
      have h0 : DataW.trod enc Try.prog w base spare held n 3 [c0] = some y0 := hg 0 _ rfl
      have h1 : DataW.trod enc Try.prog w base spare held n 66 [c1] = some y1 := hg 1 _ rfl
      obtain ⟨b, ⟨hb, hbb⟩, _⟩ := opens_int (w := w) Try.underlying3 enc base spare held n _ _ h0
      obtain ⟨l, hli, hm⟩ := opens_slice (intR_ok .u8) (by omega) Try.underlying66 (by kernel_rfl) (opens_int (w := w) Try.underlying5) enc base spare held n _ _ h1
      cases hb
      refine ⟨⟨b, l⟩, ⟨c1, rfl, i64_bounds hbb, hli⟩, ?_⟩
      simp only [otherMu, List.map_cons, List.map_nil, Rows.uptoBulk, Rows.uptoBulkAll]
      omega
theorem opens_attrs (w : World) : Opens Try.prog w 31 attrsR attrsMu := by
  intro H enc base spare held fuel cs x h
  obtain ⟨ys, n, rfl, rfl, hl, hyl, hg⟩ := DataW.trod_struct Try.underlying31 h
  have hl2 : cs.length = 10 := hl.trans (by kernel_rfl)
  match cs, hl2 with
  | [c0, c1, c2, c3, c4, c5, c6, c7, c8, c9], _ =>
    match ys, hyl with
    | [y0, y1, y2, y3, y4, y5, y6, y7, y8, y9], _ =>
      have h0 : DataW.trod enc Try.prog w base spare held n 3 [c0] = some y0 := hg 0 _ rfl
      have h1 : DataW.trod enc Try.prog w base spare held n 3 [c1] = some y1 := hg 1 _ rfl
      have h2 : DataW.trod enc Try.prog w base spare held n 27 [c2] = some y2 := hg 2 _ rfl
      have h3 : DataW.trod enc Try.prog w base spare held n 24 [c3] = some y3 := hg 3 _ rfl
      have h4 : DataW.trod enc Try.prog w base spare held n 3 [c4] = some y4 := hg 4 _ rfl
      have h5 : DataW.trod enc Try.prog w base spare held n 3 [c5] = some y5 := hg 5 _ rfl
      have h6 : DataW.trod enc Try.prog w base spare held n 3 [c6] = some y6 := hg 6 _ rfl
      have h7 : DataW.trod enc Try.prog w base spare held n 24 [c7] = some y7 := hg 7 _ rfl
      have h8 : DataW.trod enc Try.prog w base spare held n 28 [c8] = some y8 := hg 8 _ rfl
      have h9 : DataW.trod enc Try.prog w base spare held n 29 [c9] = some y9 := hg 9 _ rfl
      obtain ⟨a0, ⟨e0, b0⟩, _⟩ := opens_int (w := w) Try.underlying3 enc base spare held n _ _ h0
      obtain ⟨a1, ⟨e1, b1⟩, _⟩ := opens_int (w := w) Try.underlying3 enc base spare held n _ _ h1
      obtain ⟨a2, r2, m2⟩ := opens_slice segR_ok (by omega) Try.underlying27 (by kernel_rfl) (opens_seg w) enc base spare held n _ _ h2
      obtain ⟨a3, ⟨e3, b3⟩, _⟩ := opens_int (w := w) Try.underlying24 enc base spare held n _ _ h3
      obtain ⟨a4, ⟨e4, b4⟩, _⟩ := opens_int (w := w) Try.underlying3 enc base spare held n _ _ h4
      obtain ⟨a5, ⟨e5, b5⟩, _⟩ := opens_int (w := w) Try.underlying3 enc base spare held n _ _ h5
      obtain ⟨a6, ⟨e6, b6⟩, _⟩ := opens_int (w := w) Try.underlying3 enc base spare held n _ _ h6
      obtain ⟨a7, ⟨e7, b7⟩, _⟩ := opens_int (w := w) Try.underlying24 enc base spare held n _ _ h7
      obtain ⟨a8, r8, m8⟩ := opens_slice (intR_ok .i64) (by omega) Try.underlying28 (by kernel_rfl) (opens_int (w := w) Try.underlying3) enc base spare held n _ _ h8
      obtain ⟨a9, r9, m9⟩ := opens_slice otherR_ok (by omega) Try.underlying29 (by kernel_rfl) (opens_other w) enc base spare held n _ _ h9
      cases e0; cases e1; cases e3; cases e4; cases e5; cases e6; cases e7
      refine ⟨⟨a0, a1, a2, a3, a4, a5, a6, a7, a8, a9⟩, ⟨c2, c8, c9, rfl, r2, r8, r9, ⟨i64_bounds b0, i64_bounds b1, u32_bounds b3, i64_bounds b4, i64_bounds b5, i64_bounds b6, u32_bounds b7⟩⟩, ?_⟩
      simp only [attrsMu, List.map_cons, List.map_nil, Rows.uptoBulk, Rows.uptoBulkAll]
      omega
def candMu (c : Cand) : Nat := attrsMu c.at_
theorem opens_cand (w : World) : Opens Try.prog w 35 candR candMu := by
  intro H enc base spare held fuel cs x h
  obtain ⟨ys, n, rfl, rfl, hl, hyl, hg⟩ := DataW.trod_struct Try.underlying35 h
  have hl2 : cs.length = 14 := hl.trans (by kernel_rfl)
  match cs, hl2 with
  | [c0, c1, c2, c3, c4, c5, c6, c7, c8, c9, c10, c11, c12, c13], _ =>
    match ys, hyl with
    | [y0, y1], _ =>
      have h0 : DataW.trod enc Try.prog w base spare held n 33 [c0, c1, c2, c3, c4, c5, c6, c7, c8, c9, c10, c11, c12] = some y0 := hg 0 _ rfl
      have h1 : DataW.trod enc Try.prog w base spare held n 24 [c13] = some y1 := hg 1 _ rfl
      obtain ⟨a13, ⟨e13, b13⟩, _⟩ := opens_int (w := w) Try.underlying24 enc base spare held n _ _ h1
      obtain ⟨zs, n2, rfl, rfl, _, hzl, hg2⟩ := DataW.trod_struct Try.underlying33 h0
      match zs, hzl with
      | [z0, z1, z2], _ =>
        have k0 : DataW.trod enc Try.prog w base spare held n2 3 [c0] = some z0 := hg2 0 _ rfl
        have k1 : DataW.trod enc Try.prog w base spare held n2 26 [c1, c2] = some z1 := hg2 1 _ rfl
        have k2 : DataW.trod enc Try.prog w base spare held n2 31 [c3, c4, c5, c6, c7, c8, c9, c10, c11, c12] = some z2 := hg2 2 _ rfl
        obtain ⟨a0, ⟨e0, b0⟩, _⟩ := opens_int (w := w) Try.underlying3 enc base spare held n2 _ _ k0
        obtain ⟨us, n3, rfl, rfl, _, hul, hg3⟩ := DataW.trod_struct Try.underlying26 k1
        obtain ⟨a, ra, ma⟩ := opens_attrs w enc base spare held _ _ _ k2
        match us, hul with
        | [u0, u1], _ =>
          have j0 : DataW.trod enc Try.prog w base spare held n3 24 [c1] = some u0 := hg3 0 _ rfl
          have j1 : DataW.trod enc Try.prog w base spare held n3 3 [c2] = some u1 := hg3 1 _ rfl
          obtain ⟨a1, ⟨e1, b1⟩, _⟩ := opens_int (w := w) Try.underlying24 enc base spare held n3 _ _ j0
          obtain ⟨a2, ⟨e2, b2⟩, _⟩ := opens_int (w := w) Try.underlying3 enc base spare held n3 _ _ j1
          cases e0; cases e1; cases e2; cases e13
          refine ⟨⟨a0, a1, a2, a, a13⟩, ⟨_, rfl, ra, ⟨i64_bounds b0, u32_bounds b1, i64_bounds b2, u32_bounds b13⟩⟩, ?_⟩
          simp only [candMu, List.map_cons, List.map_nil, Rows.uptoBulk, Rows.uptoBulkAll]
          omega
theorem opens_cands (w : World) : Opens Try.prog w 40 (listR 14 candR) (listMu candMu) :=
  opens_slice candR_ok (by omega) Try.underlying40 (by kernel_rfl) (opens_cand w)
end Go.Proofs.Ytngfabnkgpidjaa
