/- slices.Compact at prefixes. -/
import Derived.Test.YthiodgnklfbmjaaPsD
namespace Go.Proofs.Ythiodgnklfbmjaa
open Go.RowKit Go.Sort Go.Shelf
set_option linter.unusedVariables false

/-- clear(s[i:]) inside a block of the call's own, elements of some cells -/
theorem wpList_clearK {P : Program} {ops : Array Oper} {rest : List Oper} {op : Oper} {a : Act} {w : World} {Q : Exit → Act → World → Prop} (hgd : op.guard = none) (x : Operand) (t : TypeId)
    (ho : op.op = .call { callee := .builtin .clear, args := #[x], argTypes := #[t] }) (e : TypeId) (z : Value) (k : Nat) (ht : P.underlying t = some (.slice e)) (hv : ∀ w, (zeroValue e).run P w = .ok z w) (hz : z.cells.size = k) (h1 : ∀ n, ∀ v ∈ (Builtin.zeroCells z.cells n).toList, v.oneCell' = true)
    (g off n c : Nat) (cs : List Value) (hx : a.eval x = .slice (some ⟨g, off, none⟩) n c) (hb : Blk w g e cs.toArray) (hn : 0 < n) (hfit : off + n * k ≤ cs.length)
    (h : ∀ w' zs, zs.length = n * k → Blk w' g e (cs.take off ++ zs ++ cs.drop (off + n * k)).toArray → w.grownBy w' (some g) → wpList P ops Q rest (a.put op.dst (.tuple #[])) w') : wpList P ops Q (op :: rest) a w := by
  refine wpList_plain hgd fun K hK => ?_
  have hzl : (Builtin.zeroCells z.cells n).toList.length = n * k := by simp [Builtin.zeroCells, hz]
  have hst := run_storeCells_at P g off e (Builtin.zeroCells z.cells n).toList 0 cs.toArray w hb.heap (by simp only [List.size_toArray]; omega) (h1 n)
  simp only [Nat.add_zero] at hst
  obtain ⟨m, rfl⟩ : ∃ m, n = m + 1 := ⟨n - 1, by omega⟩
  unfold Oper.wp execOp
  have hrun : (Builtin.clear_ #[t] op.type #[.slice (some ⟨g, off, none⟩) (m + 1) c]).run P w = .ok (.tuple #[]) (w.setRow g (cs.take off ++ (Builtin.zeroCells z.cells (m + 1)).toList ++ cs.drop (off + (m + 1) * k)).toArray) := by
    generalize hZ : (Builtin.zeroCells z.cells (m + 1)).toList = zs at hst hzl
    simp [Builtin.clear_, run_underlying ht, hv]
    rw [hZ, hst, hzl]
    simp
  simp only [ho, resolve, invoke, builtin, Sem.run_bind, Sem.run_pure, Result.andThen_ok, List.map_toArray, List.map_cons, List.map_nil, hx, hrun]
  exact hK _ _ (h _ _ hzl ⟨setRow_heap w g cs.toArray _ e _ hb.heap⟩ ⟨rfl, rfl, rfl, by simp, fun k _ hk => setRow_other w g k _ (fun e => hk (by simp [e]))⟩)
end Go.Proofs.Ythiodgnklfbmjaa
