/- The law ChooseOrders: its lists, side by side; which places are left. -/
import Derived.Test.YtngfabnkgpidjaaOrderB
import Derived.Test.YtngfabnkgpidjaaLawPlains
import Derived.Test.YtngfabnkgpidjaaRefBest
namespace Go.Proofs.Ytngfabnkgpidjaa
open Go.RowKit
set_option linter.unusedVariables false

theorem erase_filter {l : List Nat} (hp : l.Pairwise (· < ·)) {b a : Nat} (h : l[b]? = some a) : l.eraseIdx b = l.filter fun i => !decide (i = a) := by
  induction l generalizing b with
  | nil => simp at h
  | cons x r ih =>
    obtain ⟨h1, h2⟩ := List.pairwise_cons.1 hp
    cases b with
    | zero =>
      simp at h
      subst h
      rw [List.eraseIdx_cons_zero, List.filter_cons_of_neg (by simp)]
      symm
      rw [List.filter_eq_self]
      intro y hy
      have := h1 y hy
      simp
      omega
    | succ b =>
      have h3 : r[b]? = some a := by simpa using h
      have h4 := h1 a (List.mem_of_getElem? h3)
      rw [List.eraseIdx_cons_succ, ih h2 h3, List.filter_cons_of_pos (by simp; omega)]
theorem ordAt_get {xs : List Cand} {j : Nat} (hj : j < xs.length) : (psAt xs j)[bAt xs (psAt xs j)]? = some (ordAt xs j) := by
  have hl := psAt_len xs j (by omega)
  have hb := (bAt_lt (xs := xs) (ps := psAt xs j) (by intro h; rw [h] at hl; simp at hl; omega)).1
  have h1 : (psAt xs j)[bAt xs (psAt xs j)]? = some ((psAt xs j)[bAt xs (psAt xs j)]'hb) := List.getElem?_eq_getElem _
  rw [h1, ordAt, List.getD_eq_getElem?_getD, h1]
  rfl
def goneB (xs : List Cand) (j i : Nat) : Bool := decide (i ∈ ordL xs j)
def leftL (xs : List Cand) (j k : Nat) : List Nat := (List.range k).filter fun i => !goneB xs j i
theorem psAt_left (xs : List Cand) : ∀ j, j ≤ xs.length → psAt xs j = leftL xs j xs.length
  | 0, _ => by
    unfold leftL psAt
    symm
    rw [List.filter_eq_self]
    intro i _
    simp [goneB, ordL]
  | j + 1, h => by
    have ih := psAt_left xs j (by omega)
    rw [psAt, erase_filter (psAt_nodup xs j) (ordAt_get (by omega)), ih, leftL, leftL, List.filter_filter]
    refine List.filter_congr fun i _ => ?_
    rw [goneB, goneB, ordL_succ]
    by_cases h1 : i = ordAt xs j <;> by_cases h2 : i ∈ ordL xs j <;> simp [h1, h2]
theorem ordAt_lt {xs : List Cand} {j : Nat} (hj : j < xs.length) : ordAt xs j < xs.length ∧ goneB xs j (ordAt xs j) = false := by
  have h1 := List.mem_of_getElem? (ordAt_get hj)
  have h2 := psAt_lt xs j _ h1
  rw [psAt_left xs j (by omega)] at h1
  have h3 := (List.mem_filter.1 h1).2
  exact ⟨h2, by simpa using h3⟩
theorem leftL_yes {xs : List Cand} {j k : Nat} (h : goneB xs j k = false) : leftL xs j (k + 1) = leftL xs j k ++ [k] := by
  unfold leftL
  rw [List.range_succ, List.filter_append]
  simp [h]
theorem leftL_no {xs : List Cand} {j k : Nat} (h : goneB xs j k = true) : leftL xs j (k + 1) = leftL xs j k := by
  unfold leftL
  rw [List.range_succ, List.filter_append]
  simp [h]
theorem leftL_len (xs : List Cand) (j k : Nat) : (leftL xs j k).length ≤ k := by
  have := List.length_filter_le (fun i => !goneB xs j i) (List.range k)
  unfold leftL
  simpa using this
def goneV (xs : List Cand) (j : Nat) : List Value := (List.range xs.length).map fun i => .bool (goneB xs j i)
theorem goneV_get {xs : List Cand} {j i : Nat} (h : i < xs.length) : (goneV xs j)[i]? = some (.bool (goneB xs j i)) := by
  simp [goneV, h]
theorem goneV_set {xs : List Cand} {j : Nat} (h : j < xs.length) : (goneV xs j).set (ordAt xs j) (.bool true) = goneV xs (j + 1) := by
  apply List.ext_getElem
  · simp [goneV]
  · intro i h1 h2
    simp only [List.getElem_set, goneV, List.getElem_map, List.getElem_range]
    by_cases he : ordAt xs j = i
    · subst he
      rw [if_pos rfl, goneB, ordL_succ]
      simp
    · rw [if_neg he]
      have h3 : ¬ i = ordAt xs j := fun e => he e.symm
      rw [goneB, goneB, ordL_succ]
      by_cases h4 : i ∈ ordL xs j <;> simp [h3, h4]
theorem made_falses (n : Nat) : (madeCells #[Value.bool false] n).toList = List.replicate n (.bool false) := by
  apply List.ext_getElem
  · simp [madeCells]
  · intro i h1 h2
    simp [madeCells, Nat.mod_one]
theorem goneV_zero (xs : List Cand) : goneV xs 0 = List.replicate xs.length (.bool false) := by
  apply List.ext_getElem
  · simp [goneV]
  · intro i h1 h2
    simp [goneV, goneB, ordL]

/-- the law's two lists, the call's own -/
structure SomeSt (wo wi : World) (v7 v8 : Value) (rs : List RRoute) (ps : List Nat) : Prop where
  own7 : wi.ownsRow wo.heap.size 48 7 v7 rs.length (rowsOf rs)
  own8 : wi.ownsRow wo.heap.size 3 1 v8 ps.length (ps.map placeV)
  ne : v7.ownBlock = none ∨ v7.ownBlock ≠ v8.ownBlock
  below : Below wo.heap.size wo wi
theorem SomeSt.kept {wo wi w' : World} {v7 v8 : Value} {rs : List RRoute} {ps : List Nat} (h : SomeSt wo wi v7 v8 rs ps) (hb : Below wi.heap.size wi w') : SomeSt wo w' v7 v8 rs ps :=
  ⟨h.own7.kept (grownBy_of_below hb) (own_ne _), h.own8.kept (grownBy_of_below hb) (own_ne _), h.ne, below_step h.below hb⟩
theorem rowsOf_snoc (rs : List RRoute) (r : RRoute) : rowsOf (rs ++ [r]) = rowsOf rs ++ r.row := by simp [rowsOf]
theorem SomeSt.push7 {wo wi w' : World} {v7 v8 v' : Value} {rs : List RRoute} {ps : List Nat} {r : RRoute} (h : SomeSt wo wi v7 v8 rs ps) (ho : w'.ownsRow wo.heap.size 48 7 v' (rs.length + 1) (rowsOf rs ++ r.row)) (hg : wi.grownBy w' v7.ownBlock)
    (hv : v'.ownBlock = v7.ownBlock ∨ v'.ownBlock = some wi.heap.size) : SomeSt wo w' v' v8 (rs ++ [r]) ps := by
  refine ⟨by rw [rowsOf_snoc, List.length_append]; exact ho, h.own8.kept hg ?_, ?_, h.below.grown hg h.below.size fun g he => (h.own7.lt g he).1⟩
  · rcases h.ne with e | e
    · rw [e]; exact own_ne _
    · exact .inr (fun e2 => e e2.symm)
  · rcases hv with e | e
    · rw [e]; exact h.ne
    · rw [e]
      refine .inr fun e2 => ?_
      have := (h.own8.lt _ e2.symm).2
      omega
theorem SomeSt.push8 {wo wi w' : World} {v7 v8 v' : Value} {rs : List RRoute} {ps : List Nat} {p : Nat} (h : SomeSt wo wi v7 v8 rs ps) (ho : w'.ownsRow wo.heap.size 3 1 v' (ps.length + 1) (ps.map placeV ++ [placeV p])) (hg : wi.grownBy w' v8.ownBlock)
    (hv : v'.ownBlock = v8.ownBlock ∨ v'.ownBlock = some wi.heap.size) : SomeSt wo w' v7 v' rs (ps ++ [p]) := by
  refine ⟨h.own7.kept hg ?_, by rw [List.map_append, List.length_append]; exact ho, ?_, h.below.grown hg h.below.size fun g he => (h.own8.lt g he).1⟩
  · exact h.ne
  · rcases hv with e | e
    · rw [e]; exact h.ne
    · rw [e]
      refine .inr fun e2 => ?_
      have := (h.own7.lt _ e2).2
      omega
end Go.Proofs.Ytngfabnkgpidjaa
