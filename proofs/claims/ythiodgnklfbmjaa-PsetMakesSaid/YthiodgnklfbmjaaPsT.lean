/- Plain: what a merge of two sorted lists holds. -/
import Derived.Test.YthiodgnklfbmjaaPsS
namespace Go.Proofs.Ythiodgnklfbmjaa
open Go.RowKit
set_option linter.unusedVariables false
set_option linter.unusedSimpArgs false

theorem onP_mem {b : Bool} {p q : Pfx} : p ∈ onP b q ↔ b = true ∧ p = q := by cases b <;> simp [onP]
theorem memP_self (x : Pfx) (xs : List Pfx) : memP (x :: xs) x = true := memP_iff.2 (by simp)
theorem memP_ne {p x : Pfx} (xs : List Pfx) (h : p ≠ x) : memP (x :: xs) p = memP xs p := by
  rw [Bool.eq_iff_iff, memP_iff, memP_iff, List.mem_cons]
  exact ⟨fun h2 => h2.elim (fun e => absurd e h) id, .inr⟩
theorem memP_no {p : Pfx} {xs : List Pfx} (h : p ∉ xs) : memP xs p = false := by
  cases hm : memP xs p
  · rfl
  · exact absurd (memP_iff.1 hm) h
theorem sorted_head {x : Pfx} {xs : List Pfx} (h : sortedP (x :: xs)) : (∀ q ∈ xs, cmpP x q < 0) ∧ sortedP xs := List.pairwise_cons.1 h
theorem cmpP_self (x : Pfx) : cmpP x x = 0 := cmpP_zero.2 rfl
theorem sorted_not {x : Pfx} {xs : List Pfx} (h : sortedP (x :: xs)) : x ∉ xs := fun hm => by
  have := (sorted_head h).1 x hm
  rw [cmpP_self] at this
  omega
theorem cmpP_tr {x y z : Pfx} (h1 : cmpP x y < 0) (h2 : cmpP y z < 0) : cmpP x z < 0 := by rw [cmpP_lt] at *; omega
theorem cmpP_gt {x y : Pfx} (h1 : ¬ cmpP x y < 0) (h2 : ¬ cmpP x y = 0) : cmpP y x < 0 := by
  obtain ⟨a, l⟩ := x
  obtain ⟨b, m⟩ := y
  rw [cmpP_zero, Pfx.mk.injEq] at h2
  rw [cmpP_lt] at *
  simp only at *
  omega
theorem lt_not {x y : Pfx} {ys : List Pfx} (h : sortedP (y :: ys)) (hx : cmpP x y < 0) : x ∉ y :: ys := fun hm => by
  rcases List.mem_cons.1 hm with rfl | hm
  · rw [cmpP_self] at hx; omega
  · have := cmpP_tr hx ((sorted_head h).1 x hm)
    rw [cmpP_self] at this
    omega
theorem merge_spec (kp : Bool → Bool → Bool) : ∀ (n : Nat) (xs ys : List Pfx), xs.length + ys.length ≤ n → sortedP xs → sortedP ys → (∀ p, p ∈ mergeL kp xs ys ↔ (p ∈ xs ∨ p ∈ ys) ∧ kp (memP xs p) (memP ys p) = true) ∧ sortedP (mergeL kp xs ys) := by
  intro n
  induction n with
  | zero =>
    intro xs ys h _ _
    have h1 : xs = [] := List.eq_nil_of_length_eq_zero (by omega)
    have h2 : ys = [] := List.eq_nil_of_length_eq_zero (by omega)
    subst h1; subst h2
    simp [mergeL, sortedP]
  | succ n ih =>
    intro xs ys h hx hy
    have step : ∀ (b : Bool) (z : Pfx) (R : List Pfx), sortedP R → (∀ q ∈ R, cmpP z q < 0) → sortedP (onP b z ++ R) := fun b z R h1 h2 => by
      cases b
      · exact h1
      · exact List.pairwise_cons.2 ⟨h2, h1⟩
    match xs, ys with
    | [], [] => simp [mergeL, sortedP]
    | [], y :: ys =>
      obtain ⟨i1, i2⟩ := ih [] ys (by simp at h ⊢; omega) hx (sorted_head hy).2
      rw [mergeL]
      refine ⟨fun p => ?_, step _ _ _ i2 fun q hq => ?_⟩
      · rw [List.mem_append, onP_mem, i1]
        by_cases hp : p = y
        · subst hp
          have := sorted_not hy
          rw [memP_self, memP_no (show p ∉ ([] : List Pfx) by simp)]
          simp [this]
        · rw [memP_ne ys hp]
          simp [hp]
      · have := (i1 q).1 hq
        exact (sorted_head hy).1 q (by simpa using this.1)
    | x :: xs, [] =>
      obtain ⟨i1, i2⟩ := ih xs [] (by simp at h ⊢; omega) (sorted_head hx).2 hy
      rw [mergeL]
      refine ⟨fun p => ?_, step _ _ _ i2 fun q hq => ?_⟩
      · rw [List.mem_append, onP_mem, i1]
        by_cases hp : p = x
        · subst hp
          have := sorted_not hx
          rw [memP_self, memP_no (show p ∉ ([] : List Pfx) by simp)]
          simp [this]
        · rw [memP_ne xs hp]
          simp [hp]
      · have := (i1 q).1 hq
        exact (sorted_head hx).1 q (by simpa using this.1)
    | x :: xs, y :: ys =>
      rw [mergeL]
      by_cases hlt : cmpP x y < 0
      · rw [if_pos hlt]
        obtain ⟨i1, i2⟩ := ih xs (y :: ys) (by simp at h ⊢; omega) (sorted_head hx).2 hy
        have hn := lt_not hy hlt
        refine ⟨fun p => ?_, step _ _ _ i2 fun q hq => ?_⟩
        · rw [List.mem_append, onP_mem, i1]
          by_cases hp : p = x
          · subst hp
            have h3 := sorted_not hx
            rw [memP_self, memP_no hn]
            simp [h3, hn]
          · rw [memP_ne xs hp]
            simp [hp]
        · rcases ((i1 q).1 hq).1 with h4 | h4
          · exact (sorted_head hx).1 q h4
          · rcases List.mem_cons.1 h4 with rfl | h5
            · exact hlt
            · exact cmpP_tr hlt ((sorted_head hy).1 q h5)
      · rw [if_neg hlt]
        by_cases h0 : cmpP x y = 0
        · rw [if_pos h0]
          obtain rfl : x = y := cmpP_zero.1 h0
          obtain ⟨i1, i2⟩ := ih xs ys (by simp at h ⊢; omega) (sorted_head hx).2 (sorted_head hy).2
          refine ⟨fun p => ?_, step _ _ _ i2 fun q hq => ?_⟩
          · rw [List.mem_append, onP_mem, i1]
            by_cases hp : p = x
            · subst hp
              have h3 := sorted_not hx
              have h4 := sorted_not hy
              rw [memP_self, memP_self]
              simp [h3, h4]
            · rw [memP_ne xs hp, memP_ne ys hp]
              simp [hp]
          · rcases ((i1 q).1 hq).1 with h4 | h4
            · exact (sorted_head hx).1 q h4
            · exact (sorted_head hy).1 q h4
        · rw [if_neg h0]
          have hgt := cmpP_gt hlt h0
          obtain ⟨i1, i2⟩ := ih (x :: xs) ys (by simp at h ⊢; omega) hx (sorted_head hy).2
          have hn := lt_not hx hgt
          refine ⟨fun p => ?_, step _ _ _ i2 fun q hq => ?_⟩
          · rw [List.mem_append, onP_mem, i1]
            by_cases hp : p = y
            · subst hp
              have h3 := sorted_not hy
              rw [memP_self, memP_no hn]
              simp [h3, hn]
            · rw [memP_ne ys hp]
              simp [hp]
          · rcases ((i1 q).1 hq).1 with h4 | h4
            · rcases List.mem_cons.1 h4 with rfl | h5
              · exact hgt
              · exact cmpP_tr hgt ((sorted_head hx).1 q h5)
            · exact (sorted_head hy).1 q h4
theorem merge_lens : ∀ (n : Nat) (xs ys : List Pfx), xs.length + ys.length ≤ n → (mergeL kOr xs ys).length + (mergeL kAnd xs ys).length = xs.length + ys.length ∧ (mergeL kLess xs ys).length + (mergeL kAnd xs ys).length = xs.length := by
  intro n
  induction n with
  | zero =>
    intro xs ys h
    have h1 : xs = [] := List.eq_nil_of_length_eq_zero (by omega)
    have h2 : ys = [] := List.eq_nil_of_length_eq_zero (by omega)
    subst h1; subst h2
    simp [mergeL]
  | succ n ih =>
    intro xs ys h
    match xs, ys with
    | [], [] => simp [mergeL]
    | [], y :: ys =>
      have := ih [] ys (by simp at h ⊢; omega)
      simp only [mergeL, kOr, kAnd, kLess, onP, List.length_append, List.length_cons, List.length_nil, if_true, if_false, Bool.false_and, Bool.true_and, Bool.not_true, Bool.not_false, Bool.false_eq_true, Nat.zero_add] at *
      omega
    | x :: xs, [] =>
      have := ih xs [] (by simp at h ⊢; omega)
      simp only [mergeL, kOr, kAnd, kLess, onP, List.length_append, List.length_cons, List.length_nil, if_true, if_false, Bool.false_and, Bool.true_and, Bool.not_true, Bool.not_false, Bool.false_eq_true, Nat.zero_add] at *
      omega
    | x :: xs, y :: ys =>
      have h1 := ih xs (y :: ys) (by simp at h ⊢; omega)
      have h2 := ih xs ys (by simp at h ⊢; omega)
      have h3 := ih (x :: xs) ys (by simp at h ⊢; omega)
      simp only [mergeL, kOr, kAnd, kLess, onP, List.length_append, List.length_cons, List.length_nil, if_true, if_false, Bool.false_and, Bool.true_and, Bool.not_true, Bool.not_false, Bool.false_eq_true, Nat.zero_add] at *
      split
      · simp only [List.length_append, List.length_cons, List.length_nil]
        omega
      · split
        · simp only [List.length_append, List.length_cons, List.length_nil]
          omega
        · simp only [List.length_append, List.length_cons, List.length_nil]
          omega
theorem merge_small {kp : Bool → Bool → Bool} {xs ys : List Pfx} (h : xs.length + ys.length ≤ 4096) : mergeE (mergeL kp xs ys) = 0 ∧ mergeR (mergeL kp xs ys) = mergeL kp xs ys := by
  have := mergeL_len kp _ xs ys (Nat.le_refl _)
  unfold mergeE mergeR
  rw [if_neg (by omega), if_neg (by omega)]
  exact ⟨rfl, rfl⟩
/-- all that PsetMerges asks -/
structure Merged (s t : List Pfx) : Prop where
  so : sortedP (mergeL kOr s t)
  sa : sortedP (mergeL kAnd s t)
  sl : sortedP (mergeL kLess s t)
  each : ∀ p ∈ mergeL kOr s t, (memP s p || memP t p) = true ∧ memP (mergeL kAnd s t) p = (memP s p && memP t p) ∧ memP (mergeL kLess s t) p = (memP s p && !memP t p)
  both : mergeL kOr (mergeL kLess s t) (mergeL kAnd s t) = s
  back : mergeL kOr t s = mergeL kOr s t
  same : eqPs s t = (decide ((mergeL kLess s t).length = 0) && decide ((mergeL kLess t s).length = 0))
theorem merged {s t : List Pfx} (hs : sortedP s) (ht : sortedP t) : Merged s t := by
  have ho := merge_spec kOr _ s t (Nat.le_refl _) hs ht
  have ho' := merge_spec kOr _ t s (Nat.le_refl _) ht hs
  have ha := merge_spec kAnd _ s t (Nat.le_refl _) hs ht
  have hl := merge_spec kLess _ s t (Nat.le_refl _) hs ht
  have hl' := merge_spec kLess _ t s (Nat.le_refl _) ht hs
  have hb := merge_spec kOr _ _ _ (Nat.le_refl _) hl.2 ha.2
  have ma : ∀ p, memP (mergeL kAnd s t) p = (memP s p && memP t p) := fun p => by
    rw [Bool.eq_iff_iff, memP_iff, ha.1]
    unfold kAnd
    constructor
    · exact fun h => h.2
    · intro h
      rw [Bool.and_eq_true] at h
      exact ⟨.inl (memP_iff.1 h.1), by rw [h.1, h.2]; rfl⟩
  have ml : ∀ p, memP (mergeL kLess s t) p = (memP s p && !memP t p) := fun p => by
    rw [Bool.eq_iff_iff, memP_iff, hl.1]
    unfold kLess
    constructor
    · exact fun h => h.2
    · intro h
      rw [Bool.and_eq_true] at h
      exact ⟨.inl (memP_iff.1 h.1), by rw [h.1, h.2]; rfl⟩
  have empty : ∀ {a b : List Pfx}, (∀ p, p ∈ mergeL kLess a b ↔ (p ∈ a ∨ p ∈ b) ∧ kLess (memP a p) (memP b p) = true) → ((mergeL kLess a b).length = 0 ↔ ∀ p ∈ a, p ∈ b) := fun {a b} h => by
    rw [List.length_eq_zero_iff]
    constructor
    · intro h1 p hp
      have h2 := h p
      rw [h1] at h2
      cases hq : memP b p
      · exact absurd (h2.2 ⟨.inl hp, by rw [memP_iff.2 hp, hq]; rfl⟩) (by simp)
      · exact memP_iff.1 hq
    · intro h1
      apply List.eq_nil_iff_forall_not_mem.2
      intro p hp
      have h2 := ((h p).1 hp).2
      unfold kLess at h2
      rw [Bool.and_eq_true] at h2
      rw [memP_iff.2 (h1 p (memP_iff.1 h2.1))] at h2
      simp at h2
  refine ⟨ho.2, ha.2, hl.2, fun p hp => ⟨?_, ma p, ml p⟩, ?_, ?_, ?_⟩
  · rcases ((ho.1 p).1 hp).1 with h | h
    · rw [memP_iff.2 h]; rfl
    · rw [memP_iff.2 h, Bool.or_true]
  · refine sorted_unique hb.2 hs fun p => ?_
    rw [hb.1]
    unfold kOr
    rw [← memP_iff, ← memP_iff, ma, ml, ← memP_iff]
    cases memP s p <;> cases memP t p <;> simp
  · refine sorted_unique ho'.2 ho.2 fun p => ?_
    rw [ho'.1, ho.1]
    unfold kOr
    simp only [and_true]
    exact Or.comm
  · rw [Bool.eq_iff_iff, eqPs_iff, Bool.and_eq_true, decide_eq_true_eq, decide_eq_true_eq, empty hl.1, empty hl'.1]
    constructor
    · rintro rfl
      exact ⟨fun _ h => h, fun _ h => h⟩
    · rintro ⟨h1, h2⟩
      exact sorted_unique hs ht fun p => ⟨h1 p, h2 p⟩
end Go.Proofs.Ythiodgnklfbmjaa
