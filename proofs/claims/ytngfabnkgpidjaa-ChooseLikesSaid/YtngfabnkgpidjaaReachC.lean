/- Candidates, read out of an argument, within the form's reach. -/
import Derived.Test.YtngfabnkgpidjaaReach
import Derived.Test.YtngfabnkgpidjaaChooseA
namespace Go.Proofs.Ytngfabnkgpidjaa
open Go.RowKit Go.WideShapes Go.ChangeShapes Go.Deep
set_option linter.unusedVariables false

def segLt (s : Seg) : Prop := listOk 8 (fun _ => True) s.row
def otherLt (o : Other) : Prop := listOk 1 (fun _ => True) o.value
def attrsLt (a : Attrs) : Prop := listOk 32 segLt a.path ∧ listOk 8 (fun _ => True) a.comms ∧ listOk 32 otherLt a.others
def candLt (c : Cand) : Prop := attrsLt c.at_
structure RouteD where
  peer : Int
  addr : Int
  len : Int
  at_ : Attrs
def routeR : Rep RouteD := fun w F cs c => ∃ ac, cs = [.int .i64 c.peer, .int .u32 c.addr, .int .i64 c.len] ++ ac ∧ attrsR w F ac c.at_ ∧ (-9223372036854775808 ≤ c.peer ∧ c.peer ≤ 9223372036854775807) ∧ (0 ≤ c.addr ∧ c.addr ≤ 4294967295) ∧ (-9223372036854775808 ≤ c.len ∧ c.len ≤ 9223372036854775807)
def prefR : Rep (Int × Int) := fun w F cs c => cs = [.int .u32 c.1, .int .i64 c.2] ∧ (0 ≤ c.1 ∧ c.1 ≤ 4294967295) ∧ (-9223372036854775808 ≤ c.2 ∧ c.2 ≤ 9223372036854775807)
theorem opensR_seg (w : World) : OpensR Try.prog w 38 segR segLt := by
  intro H enc base spare held fuel cs x h hL
  obtain ⟨ys, n, rfl, rfl, hl, hyl, hg⟩ := DataW.trod_struct Try.underlying38 h
  have hl2 : cs.length = 2 := hl.trans (by kernel_rfl)
  match cs, hl2 with
  | [z0, z1], _ =>
    match ys, hyl with
    | [y0, y1], _ =>
      have h0 : DataW.trod enc Try.prog w base spare held n 4 [z0] = some y0 := hg 0 _ rfl
      have l0 : Light Try.prog 4 y0.1 := hL.part Try.underlying38 (j := 0) rfl rfl
      have h1 : DataW.trod enc Try.prog w base spare held n 28 [z1] = some y1 := hg 1 _ rfl
      have l1 : Light Try.prog 28 y1.1 := hL.part Try.underlying38 (j := 1) rfl rfl
      obtain ⟨a0, e0, _⟩ := opensR_bool (w := w) Try.underlying4 enc base spare held n _ _ h0 l0
      obtain ⟨a1, r1, m1⟩ := opensR_slice (intR_ok .i64) (by omega) Try.underlying28 (by kernel_rfl) (by kernel_rfl) (opensR_int (w := w) Try.underlying3) enc base spare held n _ _ h1 l1
      cases e0
      exact ⟨⟨a0, a1⟩, ⟨z1, rfl, r1⟩, m1⟩
theorem opensR_other (w : World) : OpensR Try.prog w 68 otherR otherLt := by
  intro H enc base spare held fuel cs x h hL
  obtain ⟨ys, n, rfl, rfl, hl, hyl, hg⟩ := DataW.trod_struct Try.underlying68 h
  have hl2 : cs.length = 2 := hl.trans (by kernel_rfl)
  match cs, hl2 with
  | [z0, z1], _ =>
    match ys, hyl with
    | [y0, y1], _ =>
      have h0 : DataW.trod enc Try.prog w base spare held n 3 [z0] = some y0 := hg 0 _ rfl
      have l0 : Light Try.prog 3 y0.1 := hL.part Try.underlying68 (j := 0) rfl rfl
      have h1 : DataW.trod enc Try.prog w base spare held n 66 [z1] = some y1 := hg 1 _ rfl
      have l1 : Light Try.prog 66 y1.1 := hL.part Try.underlying68 (j := 1) rfl rfl
      obtain ⟨a0, ⟨e0, b0⟩, _⟩ := opensR_int (w := w) Try.underlying3 enc base spare held n _ _ h0 l0
      obtain ⟨a1, r1, m1⟩ := opensR_slice (intR_ok .u8) (by omega) Try.underlying66 (by kernel_rfl) (by kernel_rfl) (opensR_int (w := w) Try.underlying5) enc base spare held n _ _ h1 l1
      cases e0
      exact ⟨⟨a0, a1⟩, ⟨z1, rfl, i64_bounds b0, r1⟩, m1⟩
theorem opensR_attrs (w : World) : OpensR Try.prog w 31 attrsR attrsLt := by
  intro H enc base spare held fuel cs x h hL
  obtain ⟨ys, n, rfl, rfl, hl, hyl, hg⟩ := DataW.trod_struct Try.underlying31 h
  have hl2 : cs.length = 10 := hl.trans (by kernel_rfl)
  match cs, hl2 with
  | [z0, z1, z2, z3, z4, z5, z6, z7, z8, z9], _ =>
    match ys, hyl with
    | [y0, y1, y2, y3, y4, y5, y6, y7, y8, y9], _ =>
      have h0 : DataW.trod enc Try.prog w base spare held n 3 [z0] = some y0 := hg 0 _ rfl
      have l0 : Light Try.prog 3 y0.1 := hL.part Try.underlying31 (j := 0) rfl rfl
      have h1 : DataW.trod enc Try.prog w base spare held n 3 [z1] = some y1 := hg 1 _ rfl
      have l1 : Light Try.prog 3 y1.1 := hL.part Try.underlying31 (j := 1) rfl rfl
      have h2 : DataW.trod enc Try.prog w base spare held n 27 [z2] = some y2 := hg 2 _ rfl
      have l2 : Light Try.prog 27 y2.1 := hL.part Try.underlying31 (j := 2) rfl rfl
      have h3 : DataW.trod enc Try.prog w base spare held n 24 [z3] = some y3 := hg 3 _ rfl
      have l3 : Light Try.prog 24 y3.1 := hL.part Try.underlying31 (j := 3) rfl rfl
      have h4 : DataW.trod enc Try.prog w base spare held n 3 [z4] = some y4 := hg 4 _ rfl
      have l4 : Light Try.prog 3 y4.1 := hL.part Try.underlying31 (j := 4) rfl rfl
      have h5 : DataW.trod enc Try.prog w base spare held n 3 [z5] = some y5 := hg 5 _ rfl
      have l5 : Light Try.prog 3 y5.1 := hL.part Try.underlying31 (j := 5) rfl rfl
      have h6 : DataW.trod enc Try.prog w base spare held n 3 [z6] = some y6 := hg 6 _ rfl
      have l6 : Light Try.prog 3 y6.1 := hL.part Try.underlying31 (j := 6) rfl rfl
      have h7 : DataW.trod enc Try.prog w base spare held n 24 [z7] = some y7 := hg 7 _ rfl
      have l7 : Light Try.prog 24 y7.1 := hL.part Try.underlying31 (j := 7) rfl rfl
      have h8 : DataW.trod enc Try.prog w base spare held n 28 [z8] = some y8 := hg 8 _ rfl
      have l8 : Light Try.prog 28 y8.1 := hL.part Try.underlying31 (j := 8) rfl rfl
      have h9 : DataW.trod enc Try.prog w base spare held n 29 [z9] = some y9 := hg 9 _ rfl
      have l9 : Light Try.prog 29 y9.1 := hL.part Try.underlying31 (j := 9) rfl rfl
      obtain ⟨a0, ⟨e0, b0⟩, _⟩ := opensR_int (w := w) Try.underlying3 enc base spare held n _ _ h0 l0
      obtain ⟨a1, ⟨e1, b1⟩, _⟩ := opensR_int (w := w) Try.underlying3 enc base spare held n _ _ h1 l1
      obtain ⟨a2, r2, m2⟩ := opensR_slice segR_ok (by omega) Try.underlying27 (by kernel_rfl) (by kernel_rfl) (opensR_seg w) enc base spare held n _ _ h2 l2
      obtain ⟨a3, ⟨e3, b3⟩, _⟩ := opensR_int (w := w) Try.underlying24 enc base spare held n _ _ h3 l3
      obtain ⟨a4, ⟨e4, b4⟩, _⟩ := opensR_int (w := w) Try.underlying3 enc base spare held n _ _ h4 l4
      obtain ⟨a5, ⟨e5, b5⟩, _⟩ := opensR_int (w := w) Try.underlying3 enc base spare held n _ _ h5 l5
      obtain ⟨a6, ⟨e6, b6⟩, _⟩ := opensR_int (w := w) Try.underlying3 enc base spare held n _ _ h6 l6
      obtain ⟨a7, ⟨e7, b7⟩, _⟩ := opensR_int (w := w) Try.underlying24 enc base spare held n _ _ h7 l7
      obtain ⟨a8, r8, m8⟩ := opensR_slice (intR_ok .i64) (by omega) Try.underlying28 (by kernel_rfl) (by kernel_rfl) (opensR_int (w := w) Try.underlying3) enc base spare held n _ _ h8 l8
      obtain ⟨a9, r9, m9⟩ := opensR_slice otherR_ok (by omega) Try.underlying29 (by kernel_rfl) (by kernel_rfl) (opensR_other w) enc base spare held n _ _ h9 l9
      cases e0; cases e1; cases e3; cases e4; cases e5; cases e6; cases e7
      exact ⟨⟨a0, a1, a2, a3, a4, a5, a6, a7, a8, a9⟩, ⟨z2, z8, z9, rfl, r2, r8, r9, ⟨i64_bounds b0, i64_bounds b1, u32_bounds b3, i64_bounds b4, i64_bounds b5, i64_bounds b6, u32_bounds b7⟩⟩, ⟨m2, m8, m9⟩⟩
theorem opensR_pref (w : World) : OpensR Try.prog w 26 prefR (fun _ => True) := by
  intro H enc base spare held fuel cs x h hL
  obtain ⟨ys, n, rfl, rfl, hl, hyl, hg⟩ := DataW.trod_struct Try.underlying26 h
  have hl2 : cs.length = 2 := hl.trans (by kernel_rfl)
  match cs, hl2 with
  | [z0, z1], _ =>
    match ys, hyl with
    | [y0, y1], _ =>
      have h0 : DataW.trod enc Try.prog w base spare held n 24 [z0] = some y0 := hg 0 _ rfl
      have l0 : Light Try.prog 24 y0.1 := hL.part Try.underlying26 (j := 0) rfl rfl
      have h1 : DataW.trod enc Try.prog w base spare held n 3 [z1] = some y1 := hg 1 _ rfl
      have l1 : Light Try.prog 3 y1.1 := hL.part Try.underlying26 (j := 1) rfl rfl
      obtain ⟨a0, ⟨e0, b0⟩, _⟩ := opensR_int (w := w) Try.underlying24 enc base spare held n _ _ h0 l0
      obtain ⟨a1, ⟨e1, b1⟩, _⟩ := opensR_int (w := w) Try.underlying3 enc base spare held n _ _ h1 l1
      cases e0; cases e1
      exact ⟨(a0, a1), ⟨rfl, u32_bounds b0, i64_bounds b1⟩, trivial⟩
theorem opensR_routeD (w : World) : OpensR Try.prog w 33 routeR (fun r => attrsLt r.at_) := by
  intro H enc base spare held fuel cs x h hL
  obtain ⟨ys, n, rfl, rfl, hl, hyl, hg⟩ := DataW.trod_struct Try.underlying33 h
  have hl2 : cs.length = 13 := hl.trans (by kernel_rfl)
  match cs, hl2 with
  | [z0, z1, z2, z3, z4, z5, z6, z7, z8, z9, z10, z11, z12], _ =>
    match ys, hyl with
    | [y0, y1, y2], _ =>
      have h0 : DataW.trod enc Try.prog w base spare held n 3 [z0] = some y0 := hg 0 _ rfl
      have l0 : Light Try.prog 3 y0.1 := hL.part Try.underlying33 (j := 0) rfl rfl
      have h1 : DataW.trod enc Try.prog w base spare held n 26 [z1, z2] = some y1 := hg 1 _ rfl
      have l1 : Light Try.prog 26 y1.1 := hL.part Try.underlying33 (j := 1) rfl rfl
      have h2 : DataW.trod enc Try.prog w base spare held n 31 [z3, z4, z5, z6, z7, z8, z9, z10, z11, z12] = some y2 := hg 2 _ rfl
      have l2 : Light Try.prog 31 y2.1 := hL.part Try.underlying33 (j := 2) rfl rfl
      obtain ⟨a0, ⟨e0, b0⟩, _⟩ := opensR_int (w := w) Try.underlying3 enc base spare held n _ _ h0 l0
      obtain ⟨a1, r1, m1⟩ := opensR_pref w enc base spare held n _ _ h1 l1
      obtain ⟨a2, r2, m2⟩ := opensR_attrs w enc base spare held n _ _ h2 l2
      cases e0
      exact ⟨⟨a0, a1.1, a1.2, a2⟩, (by obtain ⟨e1, b1, b2⟩ := r1; cases e1; exact ⟨_, rfl, r2, i64_bounds b0, b1, b2⟩), m2⟩
theorem opensR_cand (w : World) : OpensR Try.prog w 35 candR candLt := by
  intro H enc base spare held fuel cs x h hL
  obtain ⟨ys, n, rfl, rfl, hl, hyl, hg⟩ := DataW.trod_struct Try.underlying35 h
  have hl2 : cs.length = 14 := hl.trans (by kernel_rfl)
  match cs, hl2 with
  | [z0, z1, z2, z3, z4, z5, z6, z7, z8, z9, z10, z11, z12, z13], _ =>
    match ys, hyl with
    | [y0, y1], _ =>
      have h0 : DataW.trod enc Try.prog w base spare held n 33 [z0, z1, z2, z3, z4, z5, z6, z7, z8, z9, z10, z11, z12] = some y0 := hg 0 _ rfl
      have l0 : Light Try.prog 33 y0.1 := hL.part Try.underlying35 (j := 0) rfl rfl
      have h1 : DataW.trod enc Try.prog w base spare held n 24 [z13] = some y1 := hg 1 _ rfl
      have l1 : Light Try.prog 24 y1.1 := hL.part Try.underlying35 (j := 1) rfl rfl
      obtain ⟨a0, r0, m0⟩ := opensR_routeD w enc base spare held n _ _ h0 l0
      obtain ⟨a1, ⟨e1, b1⟩, _⟩ := opensR_int (w := w) Try.underlying24 enc base spare held n _ _ h1 l1
      cases e1
      exact ⟨⟨a0.peer, a0.addr, a0.len, a0.at_, a1⟩, (by obtain ⟨ac, e0, ra, p0, p1, p2⟩ := r0; exact ⟨ac, congrArg (fun l => l ++ [Value.int .u32 a1]) e0, ra, ⟨p0, p1, p2, u32_bounds b1⟩⟩), m0⟩
theorem opensR_cands (w : World) : OpensR Try.prog w 40 (listR 14 candR) (listOk 160 candLt) :=
  opensR_slice candR_ok (by omega) Try.underlying40 (by kernel_rfl) (by kernel_rfl) (opensR_cand w)
end Go.Proofs.Ytngfabnkgpidjaa
