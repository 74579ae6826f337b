/- Words for rows of structs, k cells each: what a sort's contract speaks of, and a block of the call's own. Nothing here speaks of one program. -/
import Derived.Test.YtjeligbgcofaeaaDoorLib4
import Derived.Test.YtjeligbgcofaeaaDoorLaySort
namespace Go.Proofs.YtjeligbgcofaeaaDoor
open Go.RowKit Go.Sort Go.Shelf
set_option linter.unusedVariables false
set_option linter.unusedSimpArgs false

section
variable {α : Type} (enc : α → List Value) (k : Nat)
def cellsK (xs : List α) : List Value := xs.flatMap enc
variable {enc k}
theorem cellsK_len (hk : ∀ x, (enc x).length = k) (xs : List α) : (cellsK enc xs).length = xs.length * k := by
  induction xs with
  | nil => simp [cellsK]
  | cons x r ih =>
    simp only [cellsK, List.flatMap_cons, List.length_append, List.length_cons] at ih ⊢
    rw [ih, hk, Nat.succ_mul, Nat.add_comm]
theorem cellsK_get (hk : ∀ x, (enc x).length = k) (h0 : 0 < k) : ∀ (xs : List α) (t : Nat), (cellsK enc xs)[t]? = (xs[t / k]?).bind fun p => (enc p)[t % k]?
  | [], t => by simp [cellsK]
  | x :: r, t => by
    by_cases ht : t < k
    · have e : (cellsK enc (x :: r))[t]? = (enc x)[t]? := by
        show (enc x ++ cellsK enc r)[t]? = _
        rw [List.getElem?_append_left (by rw [hk]; exact ht)]
      rw [e, Nat.div_eq_of_lt ht, Nat.mod_eq_of_lt ht]
      rfl
    · have ih := cellsK_get hk h0 r (t - k)
      have e : (cellsK enc (x :: r))[t]? = (cellsK enc r)[t - k]? := by
        show (enc x ++ cellsK enc r)[t]? = _
        rw [List.getElem?_append_right (by rw [hk]; omega), hk]
      have e1 : t / k = (t - k) / k + 1 := Nat.div_eq_sub_div h0 (by omega)
      have e2 : t % k = (t - k) % k := Nat.mod_eq_sub_mod (by omega)
      rw [e, ih, e1, e2, List.getElem?_cons_succ]
variable [Inhabited α]
theorem flatK_get (hk : ∀ x, (enc x).length = k) (h0 : 0 < k) (d : Array α) (t : Nat) (h : t < d.size * k) : (flatK enc k d)[t]? = (cellsK enc d.toList)[t]? := by
  have h1 : t < (flatK enc k d).size := by simpa using h
  have h2 : t / k < d.size := by rw [Nat.div_lt_iff_lt_mul h0]; exact h
  rw [Array.getElem?_eq_getElem h1, cellsK_get hk h0, ← getElem!_pos _ t h1, get_flatK enc k d t h, Array.getElem?_toList, Array.getElem?_eq_getElem h2, Option.bind_some, getElem!_pos d (t / k) h2]
  have h3 : t % k < (enc d[t / k]).length := by rw [hk]; exact Nat.mod_lt _ h0
  rw [List.getElem?_eq_getElem h3, getElem!_pos (enc d[t / k]) (t % k) h3]
theorem holds_blkK (hk : ∀ x, (enc x).length = k) (h0 : 0 < k) {w : World} {g : Nat} {t : TypeId} {xs : List α} {T : List Value} (h : Blk w g t (cellsK enc xs ++ T).toArray) : HoldsK enc k w g 0 xs.toArray := fun j hj => by
  have hj2 : j < xs.length * k := by simpa using hj
  refine ⟨?_, h.free _⟩
  rw [Nat.zero_add, h.cell, List.getElem?_toArray, List.getElem?_append_left (by rw [cellsK_len hk]; exact hj2)]
  have := flatK_get hk h0 xs.toArray j (by simpa using hj2)
  rw [← this, Array.getElem?_eq_getElem (by simpa using hj), ← getElem!_pos]
  rfl
theorem put_blkK (hk : ∀ x, (enc x).length = k) (h0 : 0 < k) {w : World} {g : Nat} {t : TypeId} {xs ys : List α} {T : List Value} (h : Blk w g t (cellsK enc xs ++ T).toArray) (hl : ys.length = xs.length) (m : Nat) : Blk (putRowK enc k (Sort.ahead w m) g 0 ys.toArray) g t (cellsK enc ys ++ T).toArray := by
  refine ⟨?_⟩
  have e : putCells id 0 (flatK enc k ys.toArray) (cellsK enc xs ++ T).toArray = (cellsK enc ys ++ T).toArray := by
    apply Array.ext_getElem?
    intro i
    unfold putCells
    rw [Array.getElem?_mapIdx]
    simp only [List.getElem?_toArray, Nat.zero_le, true_and, Nat.zero_add, size_flatK, Nat.sub_zero, List.size_toArray]
    by_cases hi : i < ys.length * k
    · rw [List.getElem?_append_left (by rw [cellsK_len hk, ← hl]; omega), List.getElem?_append_left (by rw [cellsK_len hk]; omega)]
      have hx : i < (cellsK enc xs).length := by rw [cellsK_len hk, ← hl]; omega
      rw [List.getElem?_eq_getElem hx, Option.map_some, if_pos hi]
      have := flatK_get hk h0 ys.toArray i (by simpa using hi)
      rw [← this, Array.getElem?_eq_getElem (by simpa using hi), ← getElem!_pos]
      rfl
    · rw [List.getElem?_append_right (by rw [cellsK_len hk, ← hl]; omega), List.getElem?_append_right (by rw [cellsK_len hk]; omega), cellsK_len hk, cellsK_len hk, hl]
      cases T[i - xs.length * k]? with
      | none => rfl
      | some v =>
        rw [hl] at hi
        simp only [Option.map_some, if_neg hi]
  show (mapBlock _ g _).heap[g]? = _
  have h1 : (Sort.ahead w m).heap[g]? = some (.cells (cellsK enc xs ++ T).toArray t (0, 0)) := h.heap
  unfold mapBlock
  simp only [Array.getElem?_modify, h1, if_true, Option.map_some]
  show some (Obj.cells (putCells id 0 (flatK enc k ys.toArray) (cellsK enc xs ++ T).toArray) t (0, 0)) = _
  rw [e]
theorem put_otherK (w : World) (g m : Nat) (ys : List α) : w.grownBy (putRowK enc k (Sort.ahead w m) g 0 ys.toArray) (some g) :=
  ⟨rfl, rfl, rfl, by simp [putRowK, putRow, mapBlock, Sort.ahead], fun i hi hne => by
    show (mapBlock _ g _).heap[i]? = _
    unfold mapBlock
    simp only [Array.getElem?_modify]
    rw [if_neg (fun e => hne (by rw [e]))]
    rfl⟩
end
theorem grow_blk {w : World} {g : Nat} {t : TypeId} {cs : Array Value} (h : Blk w g t cs) (os : Array Obj) : Blk (grow w os) g t cs := ⟨by
  show (w.heap ++ os)[g]? = _
  rw [Array.getElem?_append_left h.lt]
  exact h.heap⟩
theorem grow_below (w : World) (os : Array Obj) : Below w.heap.size w (grow w os) := ⟨rfl, rfl, rfl, by simp [grow], fun k hk => by
  show (w.heap ++ os)[k]? = _
  rw [Array.getElem?_append_left hk]⟩
/-- an old block other than the row's stands in the worlds of the sort -/
theorem sortWorldK_other {α : Type} [Inhabited α] {enc : α → List Value} {k : Nat} (w : World) (g m : Nat) (dk : Array α) (os : Array Obj) {i : Nat} (hi : i < w.heap.size) (hne : i ≠ g) : (sortWorldK enc k w g 0 m dk os).heap[i]? = w.heap[i]? := by
  have h1 := (put_otherK (enc := enc) (k := k) w g m dk.toList).block i hi (fun e => hne (by cases e; rfl))
  have h2 := (put_otherK (enc := enc) (k := k) w g m dk.toList).size
  unfold sortWorldK
  rw [show dk.toList.toArray = dk from rfl] at h1 h2
  show ((putRowK enc k (Sort.ahead w m) g 0 dk).heap ++ os)[i]? = _
  rw [Array.getElem?_append_left (Nat.lt_of_lt_of_le hi h2)]
  exact h1
end Go.Proofs.YtjeligbgcofaeaaDoor
