/- '==' at acts and matches. -/
import Derived.Test.YtjeligbgcofaeaaDoorRuE
import Derived.Test.YtjeligbgcofaeaaDoorHdG
namespace Go.Proofs.YtjeligbgcofaeaaDoor
open Go.RowKit
set_option linter.unusedVariables false
set_option linter.unusedSimpArgs false

/-- arrays of nine numbers -/
theorem equalIn_nine {P : Program} (w : World) (d : Nat) (t e : TypeId) (ht : P.underlying t = some (.array 9 e)) (he : P.underlying e = some (.int .u64)) (hsz : ∀ w, (sizeOf e).run P w = .ok 1 w) (a0 a1 a2 a3 a4 a5 a6 a7 a8 b0 b1 b2 b3 b4 b5 b6 b7 b8 : Int) :
    (Op.equalIn (d + 2) t (.agg #[.int .u64 a0, .int .u64 a1, .int .u64 a2, .int .u64 a3, .int .u64 a4, .int .u64 a5, .int .u64 a6, .int .u64 a7, .int .u64 a8]) (.agg #[.int .u64 b0, .int .u64 b1, .int .u64 b2, .int .u64 b3, .int .u64 b4, .int .u64 b5, .int .u64 b6, .int .u64 b7, .int .u64 b8])).run P w = .ok (a0 == b0 && (a1 == b1 && (a2 == b2 && (a3 == b3 && (a4 == b4 && (a5 == b5 && (a6 == b6 && (a7 == b7 && (a8 == b8 && true))))))))) w := by
  have hp : ∀ (xs : Array Value) (i : Nat) (x : Int), xs[i]? = some (.int .u64 x) → (part e xs i).run P w = .ok (.int .u64 x) w := fun xs i x h => by
    simp [part, isAgg, run_underlying he, h]
  have hq := fun x y => run_equalIn_int (P := P) w d e .u64 .u64 x y he
  rw [Op.equalIn]
  simp only [Sem.run_bind, run_underlying ht, Result.andThen_ok, hsz, Std.Legacy.Range.forIn_eq_forIn_range', Std.Legacy.Range.size, List.range'_succ, List.range'_zero, List.forIn_cons, List.forIn_nil, Nat.mul_one, Nat.zero_add, Nat.reduceAdd]
  have p0 := hp #[.int .u64 a0, .int .u64 a1, .int .u64 a2, .int .u64 a3, .int .u64 a4, .int .u64 a5, .int .u64 a6, .int .u64 a7, .int .u64 a8] 0 a0 rfl
  have q0 := hp #[.int .u64 b0, .int .u64 b1, .int .u64 b2, .int .u64 b3, .int .u64 b4, .int .u64 b5, .int .u64 b6, .int .u64 b7, .int .u64 b8] 0 b0 rfl
  have p1 := hp #[.int .u64 a0, .int .u64 a1, .int .u64 a2, .int .u64 a3, .int .u64 a4, .int .u64 a5, .int .u64 a6, .int .u64 a7, .int .u64 a8] 1 a1 rfl
  have q1 := hp #[.int .u64 b0, .int .u64 b1, .int .u64 b2, .int .u64 b3, .int .u64 b4, .int .u64 b5, .int .u64 b6, .int .u64 b7, .int .u64 b8] 1 b1 rfl
  have p2 := hp #[.int .u64 a0, .int .u64 a1, .int .u64 a2, .int .u64 a3, .int .u64 a4, .int .u64 a5, .int .u64 a6, .int .u64 a7, .int .u64 a8] 2 a2 rfl
  have q2 := hp #[.int .u64 b0, .int .u64 b1, .int .u64 b2, .int .u64 b3, .int .u64 b4, .int .u64 b5, .int .u64 b6, .int .u64 b7, .int .u64 b8] 2 b2 rfl
  have p3 := hp #[.int .u64 a0, .int .u64 a1, .int .u64 a2, .int .u64 a3, .int .u64 a4, .int .u64 a5, .int .u64 a6, .int .u64 a7, .int .u64 a8] 3 a3 rfl
  have q3 := hp #[.int .u64 b0, .int .u64 b1, .int .u64 b2, .int .u64 b3, .int .u64 b4, .int .u64 b5, .int .u64 b6, .int .u64 b7, .int .u64 b8] 3 b3 rfl
  have p4 := hp #[.int .u64 a0, .int .u64 a1, .int .u64 a2, .int .u64 a3, .int .u64 a4, .int .u64 a5, .int .u64 a6, .int .u64 a7, .int .u64 a8] 4 a4 rfl
  have q4 := hp #[.int .u64 b0, .int .u64 b1, .int .u64 b2, .int .u64 b3, .int .u64 b4, .int .u64 b5, .int .u64 b6, .int .u64 b7, .int .u64 b8] 4 b4 rfl
  have p5 := hp #[.int .u64 a0, .int .u64 a1, .int .u64 a2, .int .u64 a3, .int .u64 a4, .int .u64 a5, .int .u64 a6, .int .u64 a7, .int .u64 a8] 5 a5 rfl
  have q5 := hp #[.int .u64 b0, .int .u64 b1, .int .u64 b2, .int .u64 b3, .int .u64 b4, .int .u64 b5, .int .u64 b6, .int .u64 b7, .int .u64 b8] 5 b5 rfl
  have p6 := hp #[.int .u64 a0, .int .u64 a1, .int .u64 a2, .int .u64 a3, .int .u64 a4, .int .u64 a5, .int .u64 a6, .int .u64 a7, .int .u64 a8] 6 a6 rfl
  have q6 := hp #[.int .u64 b0, .int .u64 b1, .int .u64 b2, .int .u64 b3, .int .u64 b4, .int .u64 b5, .int .u64 b6, .int .u64 b7, .int .u64 b8] 6 b6 rfl
  have p7 := hp #[.int .u64 a0, .int .u64 a1, .int .u64 a2, .int .u64 a3, .int .u64 a4, .int .u64 a5, .int .u64 a6, .int .u64 a7, .int .u64 a8] 7 a7 rfl
  have q7 := hp #[.int .u64 b0, .int .u64 b1, .int .u64 b2, .int .u64 b3, .int .u64 b4, .int .u64 b5, .int .u64 b6, .int .u64 b7, .int .u64 b8] 7 b7 rfl
  have p8 := hp #[.int .u64 a0, .int .u64 a1, .int .u64 a2, .int .u64 a3, .int .u64 a4, .int .u64 a5, .int .u64 a6, .int .u64 a7, .int .u64 a8] 8 a8 rfl
  have q8 := hp #[.int .u64 b0, .int .u64 b1, .int .u64 b2, .int .u64 b3, .int .u64 b4, .int .u64 b5, .int .u64 b6, .int .u64 b7, .int .u64 b8] 8 b8 rfl
  clear hp
  cases e0 : (a0 == b0)
  · simp [hq, p0, q0, e0]
  cases e1 : (a1 == b1)
  · simp [hq, p0, q0, p1, q1, e0, e1]
  cases e2 : (a2 == b2)
  · simp [hq, p0, q0, p1, q1, p2, q2, e0, e1, e2]
  cases e3 : (a3 == b3)
  · simp [hq, p0, q0, p1, q1, p2, q2, p3, q3, e0, e1, e2, e3]
  cases e4 : (a4 == b4)
  · simp [hq, p0, q0, p1, q1, p2, q2, p3, q3, p4, q4, e0, e1, e2, e3, e4]
  cases e5 : (a5 == b5)
  · simp [hq, p0, q0, p1, q1, p2, q2, p3, q3, p4, q4, p5, q5, e0, e1, e2, e3, e4, e5]
  cases e6 : (a6 == b6)
  · simp [hq, p0, q0, p1, q1, p2, q2, p3, q3, p4, q4, p5, q5, p6, q6, e0, e1, e2, e3, e4, e5, e6]
  cases e7 : (a7 == b7)
  · simp [hq, p0, q0, p1, q1, p2, q2, p3, q3, p4, q4, p5, q5, p6, q6, p7, q7, e0, e1, e2, e3, e4, e5, e6, e7]
  cases e8 : (a8 == b8)
  · simp [hq, p0, q0, p1, q1, p2, q2, p3, q3, p4, q4, p5, q5, p6, q6, p7, q7, p8, q8, e0, e1, e2, e3, e4, e5, e6, e7, e8]
  simp [hq, p0, q0, p1, q1, p2, q2, p3, q3, p4, q4, p5, q5, p6, q6, p7, q7, p8, q8, e0, e1, e2, e3, e4, e5, e6, e7, e8]
def eqAB (a b : Act9) : Bool := a.set == b.set && ((a.v0 == b.v0 && (a.v1 == b.v1 && (a.v2 == b.v2 && (a.v3 == b.v3 && (a.v4 == b.v4 && (a.v5 == b.v5 && (a.v6 == b.v6 && (a.v7 == b.v7 && (a.v8 == b.v8 && true))))))))) && true)
theorem eqAB_iff (a b : Act9) : eqAB a b = true ↔ a = b := by
  obtain ⟨s, a0, a1, a2, a3, a4, a5, a6, a7, a8⟩ := a
  obtain ⟨t, b0, b1, b2, b3, b4, b5, b6, b7, b8⟩ := b
  simp only [eqAB, Bool.and_eq_true, beq_iff_eq, and_true, Act9.mk.injEq]
set_option maxRecDepth 100000 in
set_option maxHeartbeats 4000000 in
theorem equalIn_act (a b : Act9) (w : World) : (Op.equalIn 10000 25 (.agg a.vals.toArray) (.agg b.vals.toArray)).run Tryd.prog w = .ok (eqAB a b) w := by
  have hi := fun d k x y (T : TypeId) hT => run_equalIn_int (P := Tryd.prog) w d T k k x y hT
  rw [run_equalIn_agg w _ _ _ _ (by kernel_rfl) (by kernel_rfl)]
  simp only [Program.fieldsOf, Tryd.underlying25]
  refine eqf_cons rfl (a := .int .i64 a.set) (b := .int .i64 b.set) (by kernel_rfl) (by kernel_rfl) (hi 9998 .i64 _ _ _ Tryd.underlying3) ?_
  refine eqf_cons rfl (a := .agg #[.int .u64 a.v0, .int .u64 a.v1, .int .u64 a.v2, .int .u64 a.v3, .int .u64 a.v4, .int .u64 a.v5, .int .u64 a.v6, .int .u64 a.v7, .int .u64 a.v8]) (b := .agg #[.int .u64 b.v0, .int .u64 b.v1, .int .u64 b.v2, .int .u64 b.v3, .int .u64 b.v4, .int .u64 b.v5, .int .u64 b.v6, .int .u64 b.v7, .int .u64 b.v8]) (by kernel_rfl) (by kernel_rfl) (equalIn_nine w 9997 _ 22 (by kernel_rfl) (by kernel_rfl) (fun w => by kernel_rfl) _ _ _ _ _ _ _ _ _ _ _ _ _ _ _ _ _ _) ?_
  rfl
theorem eql_act (a b : Act9) (w : World) : (binOp .eql 25 (.agg a.vals.toArray) (.agg b.vals.toArray)).run Tryd.prog w = .ok (.bool (eqAB a b)) w := by
  rw [run_eql_struct, equalIn_act]
  rfl
/-- the zero match equals itself -/
theorem eql_mat0 (w : World) : (binOp .eql 76 (.agg #[.int .u64 0, .int .u64 0, .int .u64 0, .int .u64 0, .int .u64 0, .int .u64 0, .int .u64 0, .int .u64 0, .int .u64 0, .int .u64 0, .int .u64 0, .int .u64 0, .int .u64 0, .int .u64 0, .int .u64 0, .int .u64 0, .int .u64 0, .int .u64 0]) (.agg #[.int .u64 0, .int .u64 0, .int .u64 0, .int .u64 0, .int .u64 0, .int .u64 0, .int .u64 0, .int .u64 0, .int .u64 0, .int .u64 0, .int .u64 0, .int .u64 0, .int .u64 0, .int .u64 0, .int .u64 0, .int .u64 0, .int .u64 0, .int .u64 0])).run Tryd.prog w = .ok (.bool true) w := by
  rw [run_eql_struct]
  have hi := equalIn_nine (P := Tryd.prog) w 9997 23 22 (by kernel_rfl) (by kernel_rfl) (fun w => by kernel_rfl) 0 0 0 0 0 0 0 0 0 0 0 0 0 0 0 0 0 0
  have e : (Op.equalIn 10000 76 (.agg #[.int .u64 0, .int .u64 0, .int .u64 0, .int .u64 0, .int .u64 0, .int .u64 0, .int .u64 0, .int .u64 0, .int .u64 0, .int .u64 0, .int .u64 0, .int .u64 0, .int .u64 0, .int .u64 0, .int .u64 0, .int .u64 0, .int .u64 0, .int .u64 0]) (.agg #[.int .u64 0, .int .u64 0, .int .u64 0, .int .u64 0, .int .u64 0, .int .u64 0, .int .u64 0, .int .u64 0, .int .u64 0, .int .u64 0, .int .u64 0, .int .u64 0, .int .u64 0, .int .u64 0, .int .u64 0, .int .u64 0, .int .u64 0, .int .u64 0])).run Tryd.prog w = .ok true w := by
    rw [run_equalIn_agg w _ _ _ _ (by kernel_rfl) (by kernel_rfl)]
    simp only [Program.fieldsOf, Tryd.underlying76]
    refine eqf_cons (r := true) (s := true) rfl (a := .agg #[.int .u64 0, .int .u64 0, .int .u64 0, .int .u64 0, .int .u64 0, .int .u64 0, .int .u64 0, .int .u64 0, .int .u64 0]) (b := .agg #[.int .u64 0, .int .u64 0, .int .u64 0, .int .u64 0, .int .u64 0, .int .u64 0, .int .u64 0, .int .u64 0, .int .u64 0]) (by kernel_rfl) (by kernel_rfl) hi ?_
    refine eqf_cons (r := true) (s := true) rfl (a := .agg #[.int .u64 0, .int .u64 0, .int .u64 0, .int .u64 0, .int .u64 0, .int .u64 0, .int .u64 0, .int .u64 0, .int .u64 0]) (b := .agg #[.int .u64 0, .int .u64 0, .int .u64 0, .int .u64 0, .int .u64 0, .int .u64 0, .int .u64 0, .int .u64 0, .int .u64 0]) (by kernel_rfl) (by kernel_rfl) hi ?_
    rfl
  rw [e]
  rfl
end Go.Proofs.YtjeligbgcofaeaaDoor
