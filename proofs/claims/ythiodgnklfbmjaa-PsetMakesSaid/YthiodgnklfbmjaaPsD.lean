/- slices.SortFunc at prefixes: the row is sorted. -/
import Derived.Test.YthiodgnklfbmjaaPsC
import Derived.Test.YthiodgnklfbmjaaLaySort
namespace Go.Proofs.Ythiodgnklfbmjaa
open Go.RowKit Go.Sort Go.Shelf
set_option linter.unusedVariables false

instance : Inhabited Pfx := ⟨⟨0, 0⟩⟩
def pfxE (p : Pfx) : List Value := [.int .u32 p.addr, .int .i64 p.len]
def pcells (xs : List Pfx) : List Value := xs.flatMap pfxE
theorem pcells_len (xs : List Pfx) : (pcells xs).length = xs.length * 2 := by
  induction xs with
  | nil => rfl
  | cons x r ih => simp only [pcells, List.flatMap_cons, List.length_append, List.length_cons] at ih ⊢; rw [ih]; simp [pfxE]; omega
theorem pcells_get : ∀ (xs : List Pfx) (t : Nat), (pcells xs)[t]? = (xs[t / 2]?).bind fun p => (pfxE p)[t % 2]?
  | [], t => by simp [pcells]
  | x :: r, 0 => by simp [pcells, pfxE]
  | x :: r, 1 => by simp [pcells, pfxE]
  | x :: r, t + 2 => by
    have ih := pcells_get r t
    have e : (pcells (x :: r))[t + 2]? = (pcells r)[t]? := by
      show (pfxE x ++ pcells r)[t + 2]? = _
      rw [List.getElem?_append_right (by simp [pfxE])]
      simp [pfxE]
    rw [e, ih, show (t + 2) / 2 = t / 2 + 1 by omega, show (t + 2) % 2 = t % 2 by omega, List.getElem?_cons_succ]
theorem flat_get (d : Array Pfx) (t : Nat) (h : t < d.size * 2) : (flatK pfxE 2 d)[t]? = (pcells d.toList)[t]? := by
  have h1 : t < (flatK pfxE 2 d).size := by simpa using h
  have h2 : t / 2 < d.size := by omega
  rw [Array.getElem?_eq_getElem h1, pcells_get, ← getElem!_pos _ t h1, get_flatK pfxE 2 d t h, Array.getElem?_toList, Array.getElem?_eq_getElem h2, Option.bind_some, getElem!_pos d (t / 2) h2]
  have h3 : t % 2 < (pfxE d[t / 2]).length := by simp [pfxE]; omega
  rw [List.getElem?_eq_getElem h3, getElem!_pos (pfxE d[t / 2]) (t % 2) h3]
theorem holds_blk {w : World} {g : Nat} {t : TypeId} {xs : List Pfx} {T : List Value} (h : Blk w g t (pcells xs ++ T).toArray) : HoldsK pfxE 2 w g 0 xs.toArray := fun j hj => by
  have hj2 : j < xs.length * 2 := by simpa using hj
  refine ⟨?_, h.free _⟩
  rw [Nat.zero_add, h.cell, List.getElem?_toArray, List.getElem?_append_left (by rw [pcells_len]; exact hj2)]
  have := flat_get xs.toArray j (by simpa using hj2)
  rw [← this, Array.getElem?_eq_getElem (by simpa using hj), ← getElem!_pos]
  rfl
theorem put_blk {w : World} {g : Nat} {t : TypeId} {xs ys : List Pfx} {T : List Value} (h : Blk w g t (pcells xs ++ T).toArray) (hl : ys.length = xs.length) (m : Nat) : Blk (putRowK pfxE 2 (Sort.ahead w m) g 0 ys.toArray) g t (pcells ys ++ T).toArray := by
  refine ⟨?_⟩
  have e : putCells id 0 (flatK pfxE 2 ys.toArray) (pcells xs ++ T).toArray = (pcells ys ++ T).toArray := by
    apply Array.ext_getElem?
    intro k
    unfold putCells
    rw [Array.getElem?_mapIdx]
    simp only [List.getElem?_toArray, Nat.zero_le, true_and, Nat.zero_add, size_flatK, Nat.sub_zero, List.size_toArray]
    by_cases hk : k < ys.length * 2
    · rw [List.getElem?_append_left (by rw [pcells_len]; omega), List.getElem?_append_left (by rw [pcells_len]; omega)]
      have hx : k < (pcells xs).length := by rw [pcells_len]; omega
      rw [List.getElem?_eq_getElem hx, Option.map_some, if_pos hk]
      have := flat_get ys.toArray k (by simpa using hk)
      rw [← this, Array.getElem?_eq_getElem (by simpa using hk), ← getElem!_pos]
      rfl
    · rw [List.getElem?_append_right (by rw [pcells_len]; omega), List.getElem?_append_right (by rw [pcells_len]; omega), pcells_len, pcells_len, hl]
      cases T[k - xs.length * 2]? with
      | none => rfl
      | some v =>
        rw [hl] at hk
        simp only [Option.map_some, if_neg hk]
  show (mapBlock _ g _).heap[g]? = _
  have h0 : (Sort.ahead w m).heap[g]? = some (.cells (pcells xs ++ T).toArray t (0, 0)) := h.heap
  unfold mapBlock
  simp only [Array.getElem?_modify, h0, if_true, Option.map_some]
  show some (Obj.cells (putCells id 0 (flatK pfxE 2 ys.toArray) (pcells xs ++ T).toArray) t (0, 0)) = _
  rw [e]
theorem put_other (w : World) (g m : Nat) (ys : List Pfx) : w.grownBy (putRowK pfxE 2 (Sort.ahead w m) g 0 ys.toArray) (some g) :=
  ⟨rfl, rfl, rfl, by simp [putRowK, putRow, mapBlock, Sort.ahead], fun k hk hne => by
    show (mapBlock _ g _).heap[k]? = _
    unfold mapBlock
    simp only [Array.getElem?_modify]
    rw [if_neg (fun e => hne (by rw [e]))]
    rfl⟩
theorem grow_blk {w : World} {g : Nat} {t : TypeId} {cs : Array Value} (h : Blk w g t cs) (os : Array Obj) : Blk (grow w os) g t cs := ⟨by
  show (w.heap ++ os)[g]? = _
  rw [Array.getElem?_append_left h.lt]
  exact h.heap⟩
theorem grow_below (w : World) (os : Array Obj) : Below w.heap.size w (grow w os) := ⟨rfl, rfl, rfl, by simp [grow], fun k hk => by
  show (w.heap ++ os)[k]? = _
  rw [Array.getElem?_append_left hk]⟩

theorem ltP (p q : Pfx) : ltOf cmpP p q = decide (p.addr < q.addr ∨ (p.addr = q.addr ∧ p.len < q.len)) := by
  unfold ltOf
  rw [decide_eq_decide, cmpP_lt]
theorem swoP : SWO (ltOf cmpP) where
  irrefl x := by rw [ltP]; simp
  trans x y z h1 h2 := by rw [ltP] at *; simp at *; omega
  ntrans x y z h1 h2 := by rw [ltP] at *; simp at *; omega
theorem totP (p q : Pfx) (h1 : ltOf cmpP p q = false) (h2 : ltOf cmpP q p = false) : p = q := by
  rw [ltP, decide_eq_false_iff_not] at h1 h2
  obtain ⟨a, l⟩ := p
  obtain ⟨b, m⟩ := q
  simp only at h1 h2
  have e1 : a = b := by omega
  have e2 : l = m := by omega
  rw [e1, e2]
def sortL (xs : List Pfx) : List Pfx := xs.mergeSort fun x y => !ltOf cmpP y x
theorem sortL_perm (xs : List Pfx) : (sortL xs).Perm xs := List.mergeSort_perm _ _
theorem sortL_len (xs : List Pfx) : (sortL xs).length = xs.length := (sortL_perm xs).length_eq
theorem sortL_sorted (xs : List Pfx) : (sortL xs).Pairwise fun p q => ¬ cmpP q p < 0 := by
  have h := List.pairwise_mergeSort (le := fun x y : Pfx => !ltOf cmpP y x) (fun a b c h1 h2 => by
    simp only [ltP, Bool.not_eq_true', decide_eq_false_iff_not] at *
    omega) (fun a b => by
    simp only [ltP, Bool.or_eq_true, Bool.not_eq_true', decide_eq_false_iff_not]
    omega) xs
  refine h.imp fun {a b} h => ?_
  simp only [ltP, Bool.not_eq_true', decide_eq_false_iff_not] at h
  rw [cmpP_lt]
  exact h

set_option maxHeartbeats 1000000 in
theorem pfx_Sort (w : World) (g n cap : Nat) (xs : List Pfx) (T : List Value) (hn : n = xs.length) (hblk : Blk w g 35 (pcells xs ++ T).toArray) (hm : n ≤ 1073741824) :
    Calls Try.prog 34 #[.slice (some ⟨g, 0, none⟩) n cap, .func (.func 13) #[] #[]] w fun e w' => e = .returned (.tuple #[]) ∧ Blk w' g 35 (pcells (sortL xs) ++ T).toArray ∧ w.grownBy w' (some g) := by
  have eg : ∀ args w, (callFunc 13 args).run Try.prog w = .ok (.enter 13 args) w := enters_of Try.func13 (by kernel_rfl) rfl
  have hcmp : CmpLays Try.prog 13 #[] pfxE 2 cmpP g 0 xs.toArray.size w := fun m os dk hdk x y => (ip_CmpX x y _).mono fun e w' ⟨he, hw⟩ => ⟨he, 0, #[.cells x.vals 35, .cells y.vals 35], by
    rw [hw, alloc_eq_grow, alloc_eq_grow, grow_grow]
    rfl⟩
  have hcon := AnyQ.slices_SortFunc_total Try.laySort 2 Try.isAgg35 Try.sizeOf35 pfxE (fun _ => rfl) (fun x v hv => by simp [pfxE] at hv; rcases hv with rfl | rfl <;> rfl) cmpP swoP 13 #[] g 0 cap xs.toArray w eg hcmp (holds_blk hblk) hblk.lt (by simp; omega) totP
  change Calls Try.prog 34 _ _ _ at hcon
  simp only [List.size_toArray, ← hn] at hcon
  refine hcon.mono ?_
  rintro e w' ⟨rfl, m, os, rfl⟩
  have h1 := put_blk (ys := sortL xs) hblk (sortL_len xs) m
  exact ⟨rfl, grow_blk h1 os, grownBy_step (put_other w g m (sortL xs)) (grow_below _ os)⟩
end Go.Proofs.Ythiodgnklfbmjaa
