/- '==' and '!=' at headers. -/
import Derived.Test.YtjeligbgcofaeaaDoorHdS
import Derived.Laws.StructEq
namespace Go.Proofs.YtjeligbgcofaeaaDoor
open Go.RowKit
set_option linter.unusedVariables false
set_option linter.unusedSimpArgs false

/-- arrays of six bytes -/
theorem equalIn_six {P : Program} (w : World) (d : Nat) (t e : TypeId) (ht : P.underlying t = some (.array 6 e)) (he : P.underlying e = some (.int .u8)) (hsz : ∀ w, (sizeOf e).run P w = .ok 1 w) (a0 a1 a2 a3 a4 a5 b0 b1 b2 b3 b4 b5 : Int) :
    (Op.equalIn (d + 2) t (.agg #[.int .u8 a0, .int .u8 a1, .int .u8 a2, .int .u8 a3, .int .u8 a4, .int .u8 a5]) (.agg #[.int .u8 b0, .int .u8 b1, .int .u8 b2, .int .u8 b3, .int .u8 b4, .int .u8 b5])).run P w = .ok (a0 == b0 && (a1 == b1 && (a2 == b2 && (a3 == b3 && (a4 == b4 && (a5 == b5 && true)))))) w := by
  have hp : ∀ (xs : Array Value) (i : Nat) (x : Int), xs[i]? = some (.int .u8 x) → (part e xs i).run P w = .ok (.int .u8 x) w := fun xs i x h => by
    simp [part, isAgg, run_underlying he, h]
  have hq := fun x y => run_equalIn_int (P := P) w d e .u8 .u8 x y he
  rw [Op.equalIn]
  simp only [Sem.run_bind, run_underlying ht, Result.andThen_ok, hsz, Std.Legacy.Range.forIn_eq_forIn_range', Std.Legacy.Range.size, List.range'_succ, List.range'_zero, List.forIn_cons, List.forIn_nil, Nat.mul_one, Nat.zero_add, Nat.reduceAdd]
  have p0 := hp #[.int .u8 a0, .int .u8 a1, .int .u8 a2, .int .u8 a3, .int .u8 a4, .int .u8 a5] 0 a0 rfl
  have q0 := hp #[.int .u8 b0, .int .u8 b1, .int .u8 b2, .int .u8 b3, .int .u8 b4, .int .u8 b5] 0 b0 rfl
  have p1 := hp #[.int .u8 a0, .int .u8 a1, .int .u8 a2, .int .u8 a3, .int .u8 a4, .int .u8 a5] 1 a1 rfl
  have q1 := hp #[.int .u8 b0, .int .u8 b1, .int .u8 b2, .int .u8 b3, .int .u8 b4, .int .u8 b5] 1 b1 rfl
  have p2 := hp #[.int .u8 a0, .int .u8 a1, .int .u8 a2, .int .u8 a3, .int .u8 a4, .int .u8 a5] 2 a2 rfl
  have q2 := hp #[.int .u8 b0, .int .u8 b1, .int .u8 b2, .int .u8 b3, .int .u8 b4, .int .u8 b5] 2 b2 rfl
  have p3 := hp #[.int .u8 a0, .int .u8 a1, .int .u8 a2, .int .u8 a3, .int .u8 a4, .int .u8 a5] 3 a3 rfl
  have q3 := hp #[.int .u8 b0, .int .u8 b1, .int .u8 b2, .int .u8 b3, .int .u8 b4, .int .u8 b5] 3 b3 rfl
  have p4 := hp #[.int .u8 a0, .int .u8 a1, .int .u8 a2, .int .u8 a3, .int .u8 a4, .int .u8 a5] 4 a4 rfl
  have q4 := hp #[.int .u8 b0, .int .u8 b1, .int .u8 b2, .int .u8 b3, .int .u8 b4, .int .u8 b5] 4 b4 rfl
  have p5 := hp #[.int .u8 a0, .int .u8 a1, .int .u8 a2, .int .u8 a3, .int .u8 a4, .int .u8 a5] 5 a5 rfl
  have q5 := hp #[.int .u8 b0, .int .u8 b1, .int .u8 b2, .int .u8 b3, .int .u8 b4, .int .u8 b5] 5 b5 rfl
  clear hp
  cases e0 : (a0 == b0)
  · simp [hq, p0, q0, p1, q1, p2, q2, p3, q3, p4, q4, p5, q5, e0]
  cases e1 : (a1 == b1)
  · simp [hq, p0, q0, p1, q1, p2, q2, p3, q3, p4, q4, p5, q5, e0, e1]
  cases e2 : (a2 == b2)
  · simp [hq, p0, q0, p1, q1, p2, q2, p3, q3, p4, q4, p5, q5, e0, e1, e2]
  cases e3 : (a3 == b3)
  · simp [hq, p0, q0, p1, q1, p2, q2, p3, q3, p4, q4, p5, q5, e0, e1, e2, e3]
  cases e4 : (a4 == b4)
  · simp [hq, p0, q0, p1, q1, p2, q2, p3, q3, p4, q4, p5, q5, e0, e1, e2, e3, e4]
  cases e5 : (a5 == b5)
  · simp [hq, p0, q0, p1, q1, p2, q2, p3, q3, p4, q4, p5, q5, e0, e1, e2, e3, e4, e5]
  simp [hq, p0, q0, p1, q1, p2, q2, p3, q3, p4, q4, p5, q5, e0, e1, e2, e3, e4, e5]
/-- one field more -/
theorem eqf_cons {P : Program} {w : World} {d : Nat} {xs ys : Array Value} {f : Field} {fs : List Field} {a b : Value} {r s : Bool} (hn : (f.name == "_") = false) (ha : (part f.type xs f.offset).run P w = .ok a w) (hb : (part f.type ys f.offset).run P w = .ok b w) (hr : (Op.equalIn d f.type a b).run P w = .ok r w) (hs : (Op.eqFields d xs ys fs).run P w = .ok s w) : (Op.eqFields d xs ys (f :: fs)).run P w = .ok (r && s) w := by
  have hn2 : f.name ≠ "_" := by simpa using hn
  rw [Op.eqFields, if_pos hn2]
  simp only [Sem.run_bind, ha, hb, hr, Result.andThen_ok]
  cases r
  · simp
  · simpa using hs
def eqHB (h g : Hdr) : Bool := h.port == g.port && ((h.src.b0 == g.src.b0 && (h.src.b1 == g.src.b1 && (h.src.b2 == g.src.b2 && (h.src.b3 == g.src.b3 && (h.src.b4 == g.src.b4 && (h.src.b5 == g.src.b5 && true)))))) && ((h.dst.b0 == g.dst.b0 && (h.dst.b1 == g.dst.b1 && (h.dst.b2 == g.dst.b2 && (h.dst.b3 == g.dst.b3 && (h.dst.b4 == g.dst.b4 && (h.dst.b5 == g.dst.b5 && true)))))) && (h.typ == g.typ && (h.sip == g.sip && (h.dip == g.dip && (h.proto == g.proto && (h.sp == g.sp && (h.dp == g.dp && true))))))))
theorem eqHB_iff (h g : Hdr) : eqHB h g = true ↔ h = g := by
  obtain ⟨p, ⟨s0, s1, s2, s3, s4, s5⟩, ⟨d0, d1, d2, d3, d4, d5⟩, t, si, di, pr, sp, dp⟩ := h
  obtain ⟨p', ⟨s0', s1', s2', s3', s4', s5'⟩, ⟨d0', d1', d2', d3', d4', d5'⟩, t', si', di', pr', sp', dp'⟩ := g
  simp only [eqHB, Bool.and_eq_true, beq_iff_eq, and_true, Hdr.mk.injEq, Mac6.mk.injEq]
set_option maxRecDepth 100000 in
set_option maxHeartbeats 4000000 in
theorem equalIn_hdr (h g : Hdr) (w : World) : (Op.equalIn 10000 31 (.agg h.vals.toArray) (.agg g.vals.toArray)).run Tryd.prog w = .ok (eqHB h g) w := by
  have hi := fun d k x y (T : TypeId) hT => run_equalIn_int (P := Tryd.prog) w d T k k x y hT
  rw [run_equalIn_agg w _ _ _ _ (by kernel_rfl) (by kernel_rfl)]
  simp only [Program.fieldsOf, Tryd.underlying31]
  refine eqf_cons rfl (a := .int .i64 h.port) (b := .int .i64 g.port) (by kernel_rfl) (by kernel_rfl) (hi 9998 .i64 _ _ _ Tryd.underlying3) ?_
  refine eqf_cons rfl (a := .agg #[.int .u8 h.src.b0, .int .u8 h.src.b1, .int .u8 h.src.b2, .int .u8 h.src.b3, .int .u8 h.src.b4, .int .u8 h.src.b5]) (b := .agg #[.int .u8 g.src.b0, .int .u8 g.src.b1, .int .u8 g.src.b2, .int .u8 g.src.b3, .int .u8 g.src.b4, .int .u8 g.src.b5]) (by kernel_rfl) (by kernel_rfl) (equalIn_six w 9997 _ 5 (by kernel_rfl) (by kernel_rfl) (fun w => by kernel_rfl) _ _ _ _ _ _ _ _ _ _ _ _) ?_
  refine eqf_cons rfl (a := .agg #[.int .u8 h.dst.b0, .int .u8 h.dst.b1, .int .u8 h.dst.b2, .int .u8 h.dst.b3, .int .u8 h.dst.b4, .int .u8 h.dst.b5]) (b := .agg #[.int .u8 g.dst.b0, .int .u8 g.dst.b1, .int .u8 g.dst.b2, .int .u8 g.dst.b3, .int .u8 g.dst.b4, .int .u8 g.dst.b5]) (by kernel_rfl) (by kernel_rfl) (equalIn_six w 9997 _ 5 (by kernel_rfl) (by kernel_rfl) (fun w => by kernel_rfl) _ _ _ _ _ _ _ _ _ _ _ _) ?_
  refine eqf_cons rfl (a := .int .i64 h.typ) (b := .int .i64 g.typ) (by kernel_rfl) (by kernel_rfl) (hi 9998 .i64 _ _ _ Tryd.underlying3) ?_
  refine eqf_cons rfl (a := .int .u32 h.sip) (b := .int .u32 g.sip) (by kernel_rfl) (by kernel_rfl) (hi 9998 .u32 _ _ _ (by kernel_rfl)) ?_
  refine eqf_cons rfl (a := .int .u32 h.dip) (b := .int .u32 g.dip) (by kernel_rfl) (by kernel_rfl) (hi 9998 .u32 _ _ _ (by kernel_rfl)) ?_
  refine eqf_cons rfl (a := .int .i64 h.proto) (b := .int .i64 g.proto) (by kernel_rfl) (by kernel_rfl) (hi 9998 .i64 _ _ _ Tryd.underlying3) ?_
  refine eqf_cons rfl (a := .int .i64 h.sp) (b := .int .i64 g.sp) (by kernel_rfl) (by kernel_rfl) (hi 9998 .i64 _ _ _ Tryd.underlying3) ?_
  refine eqf_cons rfl (a := .int .i64 h.dp) (b := .int .i64 g.dp) (by kernel_rfl) (by kernel_rfl) (hi 9998 .i64 _ _ _ Tryd.underlying3) ?_
  rfl
theorem eql_hdr (h g : Hdr) (w : World) : (binOp .eql 31 (.agg h.vals.toArray) (.agg g.vals.toArray)).run Tryd.prog w = .ok (.bool (eqHB h g)) w := by
  rw [run_eql_struct, equalIn_hdr]
  rfl
theorem neq_hdr (h g : Hdr) (w : World) : (binOp .neq 31 (.agg h.vals.toArray) (.agg g.vals.toArray)).run Tryd.prog w = .ok (.bool (!eqHB h g)) w := by
  rw [run_neq_struct, equalIn_hdr]
  rfl
end Go.Proofs.YtjeligbgcofaeaaDoor
