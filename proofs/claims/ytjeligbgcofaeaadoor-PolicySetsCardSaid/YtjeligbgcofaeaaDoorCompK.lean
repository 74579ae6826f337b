/- What slices.Compact makes of a row, for any kind of element; and a row of structs of k cells, an element set. Nothing here speaks of one program. -/
import Derived.Test.YtjeligbgcofaeaaDoorSortK
namespace Go.Proofs.YtjeligbgcofaeaaDoor
open Go.RowKit Go.Sort Go.Shelf
set_option linter.unusedVariables false
set_option linter.unusedSimpArgs false

section
variable {α : Type} (eqb : α → α → Bool)
def dupK (xs : List α) : Nat → Bool
  | 0 => false
  | j + 1 => match xs[j]?, xs[j + 1]? with
    | some p, some q => eqb q p
    | _, _ => false
def compactK (xs : List α) : Nat → List α
  | 0 => []
  | j + 1 => compactK xs j ++ (match xs[j]? with | some x => if dupK eqb xs j = true then [] else [x] | none => [])
variable {eqb}
theorem compactK_le (xs : List α) (j : Nat) : (compactK eqb xs j).length ≤ j := by
  induction j with
  | zero => simp [compactK]
  | succ j ih =>
    unfold compactK
    rw [List.length_append]
    split
    · split
      · simp; omega
      · simp; omega
    · simp; omega
theorem compactK_yes {xs : List α} {j : Nat} {x : α} (hx : xs[j]? = some x) (h : dupK eqb xs j = true) : compactK eqb xs (j + 1) = compactK eqb xs j := by simp [compactK, hx, h]
theorem compactK_no {xs : List α} {j : Nat} {x : α} (hx : xs[j]? = some x) (h : dupK eqb xs j = false) : compactK eqb xs (j + 1) = compactK eqb xs j ++ [x] := by simp [compactK, hx, h]
theorem dupK_eq {xs : List α} {j : Nat} {x y : α} (hx : xs[j]? = some x) (hy : xs[j + 1]? = some y) : dupK eqb xs (j + 1) = eqb y x := by simp [dupK, hx, hy]
theorem take_snocK {xs : List α} {j : Nat} {x : α} (hx : xs[j]? = some x) : xs.take (j + 1) = xs.take j ++ [x] := by
  obtain ⟨h1, h2⟩ := List.getElem?_eq_some_iff.1 hx
  rw [List.take_succ_eq_append_getElem h1, h2]
/-- a sorted row, compacted: sorted strictly, the same elements -/
theorem compactK_spec {lt : α → α → Prop} (hq : ∀ x y, eqb x y = true ↔ x = y) (htr : ∀ x y z, lt x y → lt y z → lt x z) (htot : ∀ x y, ¬ lt x y → ¬ lt y x → x = y) {xs : List α} (hs : xs.Pairwise fun p q => ¬ lt q p) : ∀ (j : Nat), j ≤ xs.length → (compactK eqb xs j).Pairwise lt ∧ (∀ p, p ∈ compactK eqb xs j ↔ p ∈ xs.take j) ∧ (∀ p x, p ∈ compactK eqb xs j → xs[j]? = some x → dupK eqb xs j = false → lt p x)
  | 0, _ => ⟨.nil, by simp [compactK], by simp [compactK]⟩
  | j + 1, hj => by
    obtain ⟨h1, h2, h3⟩ := compactK_spec hq htr htot hs j (by omega)
    have hx := List.getElem?_eq_getElem (show j < xs.length by omega)
    have hle : ∀ p y, p ∈ xs.take (j + 1) → xs[j + 1]? = some y → dupK eqb xs (j + 1) = false → lt p y := fun p y hp hy hd => by
      rw [dupK_eq hx hy, ← Bool.not_eq_true, hq] at hd
      obtain ⟨t, ht, rfl⟩ := List.mem_iff_getElem.1 hp
      rw [List.getElem_take]
      rw [List.length_take] at ht
      obtain ⟨hy1, hy2⟩ := List.getElem?_eq_some_iff.1 hy
      have hp1 := List.pairwise_iff_getElem.1 hs j (j + 1) (by omega) hy1 (by omega)
      rw [hy2] at hp1
      have hlt : lt xs[j] y := Classical.byContradiction fun h => hd (htot _ _ hp1 h)
      by_cases htj : t = j
      · subst htj
        exact hlt
      · have h4 := List.pairwise_iff_getElem.1 hs t j (by omega) (by omega) (by omega)
        by_cases h5 : lt xs[t] xs[j]
        · exact htr _ _ _ h5 hlt
        · rw [htot _ _ h5 h4]; exact hlt
    cases hd : dupK eqb xs j
    · rw [compactK_no hx hd]
      refine ⟨?_, fun p => ?_, fun p y hp hy hd2 => hle p y ?_ hy hd2⟩
      · refine List.pairwise_append.2 ⟨h1, List.pairwise_singleton _ _, fun p hp q hq => ?_⟩
        rw [List.mem_singleton] at hq
        subst hq
        exact h3 p _ hp hx hd
      · rw [take_snocK hx, List.mem_append, List.mem_append, h2 p]
      · rw [take_snocK hx, List.mem_append]
        rw [List.mem_append, h2 p] at hp
        exact hp
    · rw [compactK_yes hx hd]
      have hmem : ∀ p, p ∈ xs.take j ↔ p ∈ xs.take (j + 1) := fun p => by
        rw [take_snocK hx, List.mem_append, List.mem_singleton]
        refine ⟨.inl, fun h => h.elim id fun h => ?_⟩
        cases j with
        | zero => cases hd
        | succ i =>
          have hi := List.getElem?_eq_getElem (show i < xs.length by omega)
          rw [dupK_eq hi hx, hq] at hd
          rw [h, hd]
          have h5 : xs[i] ∈ xs.take i ++ [xs[i]] := List.mem_append_right _ (List.mem_singleton.2 rfl)
          rw [← take_snocK hi] at h5
          exact h5
      exact ⟨h1, fun p => by rw [h2 p, hmem p], fun p y hp hy hd2 => hle p y ((hmem p).1 ((h2 p).1 hp)) hy hd2⟩
end
section
variable {α : Type} {enc : α → List Value} {k : Nat}
theorem cellsK_append (xs ys : List α) : cellsK enc (xs ++ ys) = cellsK enc xs ++ cellsK enc ys := by simp [cellsK]
theorem cellsK_set (hk : ∀ x, (enc x).length = k) {xs : List α} {T : List Value} {i : Nat} (hi : i < xs.length) (p : α) : (cellsK enc xs ++ T).take (i * k) ++ enc p ++ (cellsK enc xs ++ T).drop (i * k + k) = cellsK enc (xs.set i p) ++ T := by
  have e : xs = xs.take i ++ xs[i] :: xs.drop (i + 1) := by rw [List.getElem_cons_drop, List.take_append_drop]
  have e2 : xs.set i p = xs.take i ++ p :: xs.drop (i + 1) := by rw [List.set_eq_take_append_cons_drop, if_pos hi]
  have hl : (cellsK enc (xs.take i)).length = i * k := by rw [cellsK_len hk, List.length_take]; congr 1; omega
  have e3 : cellsK enc xs = cellsK enc (xs.take i) ++ (enc xs[i] ++ cellsK enc (xs.drop (i + 1))) := by
    conv => lhs; rw [e]
    rw [cellsK_append]
    rfl
  have e4 : cellsK enc (xs.set i p) = cellsK enc (xs.take i) ++ (enc p ++ cellsK enc (xs.drop (i + 1))) := by
    rw [e2, cellsK_append]
    rfl
  have e5 : cellsK enc xs ++ T = cellsK enc (xs.take i) ++ (enc xs[i] ++ (cellsK enc (xs.drop (i + 1)) ++ T)) := by rw [e3]; simp
  rw [e4, e5, ← hl, List.take_left, ← List.drop_drop, List.drop_left, ← hk xs[i], List.drop_left]
  simp
/-- the cells of the element at a place -/
theorem rangeK (hk : ∀ x, (enc x).length = k) {w : World} {g : Nat} {t : TypeId} {xs : List α} {T : List Value} (h : Blk w g t (cellsK enc xs ++ T).toArray) {i : Nat} {x : α} (hx : xs[i]? = some x) : w.rangeAt g (i * k) (enc x) := fun j v hv => by
  obtain ⟨hi, hx2⟩ := List.getElem?_eq_some_iff.1 hx
  have hj : j < k := by have := (List.getElem?_eq_some_iff.1 hv).1; rw [hk] at this; exact this
  have h0 : 0 < k := by omega
  have hle : i * k + k ≤ xs.length * k := by rw [← Nat.succ_mul]; exact Nat.mul_le_mul_right k hi
  rw [h.cell, List.getElem?_toArray, List.getElem?_append_left (by rw [cellsK_len hk]; omega), cellsK_get hk h0, Nat.mul_comm, Nat.mul_add_div h0, Nat.div_eq_of_lt hj, Nat.add_zero, hx, Nat.mul_add_mod, Nat.mod_eq_of_lt hj]
  exact hv
end
theorem Blk.dnK {w : World} {g : Nat} {t : TypeId} {cs : Array Value} (h : Blk w g t cs) (k : Nat) : Blk (w.drewN k) g t cs := ⟨h.heap⟩
theorem grownBy_dnK {w w' : World} {g : Nat} (h : w.grownBy w' (some g)) (k : Nat) : w.grownBy (w'.drewN k) (some g) := grownBy_step h (below_dn2 (Below.refl _ _) k)
theorem grownBy_ofBelow {w w' : World} (h : Below w.heap.size w w') (g : Nat) : w.grownBy w' (some g) := ⟨h.os, h.tape, h.output, h.size, fun k hk _ => h.block k hk⟩
end Go.Proofs.YtjeligbgcofaeaaDoor
