/- rules.List.Total; the example of the rules' laws. -/
import Derived.Test.YtjeligbgcofaeaaDoorRuL
import Derived.Test.YtjeligbgcofaeaaDoorRuH
namespace Go.Proofs.YtjeligbgcofaeaaDoor
open Go.RowKit Go.Sort Go.Shelf
set_option linter.unusedVariables false
set_option linter.unusedSimpArgs false

def r0 (ab : Nat) : RuleD := ⟨mv80, mk80, .slice (some ⟨ab, 0, none⟩) 1 1⟩
def r1 : RuleD := ⟨z9, z9, .slice none 0 0⟩
def lsC (ab : Nat) : List Value := (r0 ab).cells ++ r1.cells
theorem r0_good (ab : Nat) : (r0 ab).Good := ⟨rfl, rfl, rfl⟩
theorem r1_good : r1.Good := ⟨rfl, rfl, rfl⟩
theorem rules_at {w : World} {L ab : Nat} {t : TypeId} (h : Blk w L t (lsC ab).toArray) : RulesAt w L [r0 ab, r1] := by
  intro k r hr
  match k, hr with
  | 0, rfl =>
    have := rangeAt_take h.range 19
    unfold lsC at this
    rw [List.take_left' (r0_good ab).len] at this
    exact this
  | 1, rfl =>
    have := rangeAt_drop h.range 19
    unfold lsC at this
    rw [List.drop_left' (r0_good ab).len] at this
    exact this
set_option maxRecDepth 100000 in
set_option maxHeartbeats 1000000 in
theorem list_Total (w : World) (L ab : Nat) (t : TypeId) (h : Blk w L t (lsC ab).toArray) :
    Calls Tryd.prog 38 #[.slice (some ⟨L, 0, none⟩) 2 2] w fun e w' => e = .returned (.bool true) ∧ w' = w := by
  have R := Lib.hid (show w.rangeAt L 19 [.int .u64 0, .int .u64 0, .int .u64 0, .int .u64 0, .int .u64 0, .int .u64 0, .int .u64 0, .int .u64 0, .int .u64 0, .int .u64 0, .int .u64 0, .int .u64 0, .int .u64 0, .int .u64 0, .int .u64 0, .int .u64 0, .int .u64 0, .int .u64 0] from fun j v hj => rules_at h 1 r1 rfl j v (by
    rw [show r1.cells = [.int .u64 0, .int .u64 0, .int .u64 0, .int .u64 0, .int .u64 0, .int .u64 0, .int .u64 0, .int .u64 0, .int .u64 0, .int .u64 0, .int .u64 0, .int .u64 0, .int .u64 0, .int .u64 0, .int .u64 0, .int .u64 0, .int .u64 0, .int .u64 0] ++ [Value.slice none 0 0] from rfl]
    exact (List.getElem?_append_left (List.getElem?_eq_some_iff.1 hj).1).trans hj))
  have HE := eql_mat0
  clear h
  go_enter Tryd.func38, Tryd.ntmps38
  go_wp2_with (first
    | (refine wpList_load_rowG (by rfl) 76 (.tmp 12) rfl L 19 rfl _ _ R.out Tryd.underlying76 rfl (by kernel_rfl) ?_)
    | fail)
  go_ret
  exact ⟨rfl, rfl⟩
end Go.Proofs.YtjeligbgcofaeaaDoor
