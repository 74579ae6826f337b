/- choose.Best's answer, step by step, as lists. -/
import Derived.Test.YtngfabnkgpidjaaChooseE
namespace Go.Proofs.Ytngfabnkgpidjaa
open Go.RowKit
set_option linter.unusedVariables false

def leftTo (xs : List Cand) (f : Cand) : Nat → List Int
  | 0 => []
  | k + 1 => if beforeI (candAt xs (k : Nat)) f = 0 then leftTo xs f k ++ [(k : Int)] else leftTo xs f k
theorem leftTo_mem {xs : List Cand} {f : Cand} : ∀ {n : Nat} {i : Int}, i ∈ leftTo xs f n ↔ ∃ k : Nat, k < n ∧ i = (k : Int) ∧ beforeI (candAt xs (k : Nat)) f = 0
  | 0, i => by simp [leftTo]
  | n + 1, i => by
    have ih := leftTo_mem (xs := xs) (f := f) (n := n) (i := i)
    unfold leftTo
    split
    · rename_i h
      rw [List.mem_append, ih]
      constructor
      · rintro (⟨k, hk, rfl, hb⟩ | h1)
        · exact ⟨k, by omega, rfl, hb⟩
        · simp at h1
          exact ⟨n, by omega, h1, h⟩
      · rintro ⟨k, hk, rfl, hb⟩
        by_cases hkn : k = n
        · subst hkn; exact .inr (by simp)
        · exact .inl ⟨k, by omega, rfl, hb⟩
    · rename_i h
      rw [ih]
      constructor
      · rintro ⟨k, hk, rfl, hb⟩
        exact ⟨k, by omega, rfl, hb⟩
      · rintro ⟨k, hk, rfl, hb⟩
        by_cases hkn : k = n
        · subst hkn; exact absurd hb h
        · exact ⟨k, by omega, rfl, hb⟩
theorem leftTo_len (xs : List Cand) (f : Cand) : ∀ n, (leftTo xs f n).length ≤ n
  | 0 => by simp [leftTo]
  | n + 1 => by
    have := leftTo_len xs f n
    unfold leftTo
    split
    · rw [List.length_append]; simp; omega
    · omega
def leastStep (xs : List Cand) (f : Int → Option Int) (i : Int) : Int → Option Int :=
  if (f (firstAt xs i)).isSome = false ∨ medAt xs i < (f (firstAt xs i)).getD 0 then putF f (firstAt xs i) (medAt xs i) else f
def leastOf (xs : List Cand) : List Int → Int → Option Int
  | l => l.foldl (leastStep xs) fun _ => none
theorem leastOf_snoc (xs : List Cand) (l : List Int) (i : Int) : leastOf xs (l ++ [i]) = leastStep xs (leastOf xs l) i := by simp [leastOf, List.foldl_append]
theorem snoc_ind {α : Type} {p : List α → Prop} (h0 : p []) (h1 : ∀ l x, p l → p (l ++ [x])) : ∀ l, p l := by
  intro l
  have : ∀ n (l : List α), l.length = n → p l := by
    intro n
    induction n with
    | zero => intro l hl; rw [List.eq_nil_of_length_eq_zero hl]; exact h0
    | succ n ih =>
      intro l hl
      have hne : l ≠ [] := by intro h; rw [h] at hl; simp at hl
      rw [← List.dropLast_concat_getLast hne]
      exact h1 _ _ (ih _ (by simp [hl]))
  exact this _ l rfl
theorem leastOf_spec (xs : List Cand) : ∀ l : List Int, (∀ a m, leastOf xs l a = some m → ∃ i ∈ l, firstAt xs i = a ∧ medAt xs i = m) ∧ (∀ i ∈ l, ∃ m, leastOf xs l (firstAt xs i) = some m ∧ m ≤ medAt xs i) := by
  refine snoc_ind ⟨by simp [leastOf], by simp⟩ ?_
  rintro l x ⟨h1, h2⟩
  rw [leastOf_snoc]
  unfold leastStep
  split
  · rename_i hc
    refine ⟨fun a m ham => ?_, fun i hi => ?_⟩
    · unfold putF at ham
      split at ham
      · rename_i ha
        cases ham
        exact ⟨x, by simp, ha.symm, rfl⟩
      · obtain ⟨i, hi, e1, e2⟩ := h1 a m ham
        exact ⟨i, by simp [hi], e1, e2⟩
    · unfold putF
      by_cases hx : firstAt xs i = firstAt xs x
      · rw [if_pos hx]
        refine ⟨_, rfl, ?_⟩
        rcases List.mem_append.1 hi with h | h
        · obtain ⟨m, hm, hle⟩ := h2 i h
          rw [hx] at hm
          rw [hm] at hc
          simp at hc
          omega
        · simp at h
          subst h
          exact Int.le_refl _
      · rw [if_neg hx]
        rcases List.mem_append.1 hi with h | h
        · exact h2 i h
        · simp at h
          subst h
          exact absurd rfl hx
  · rename_i hc
    refine ⟨fun a m ham => ?_, fun i hi => ?_⟩
    · obtain ⟨i, hi, e1, e2⟩ := h1 a m ham
      exact ⟨i, by simp [hi], e1, e2⟩
    · rcases List.mem_append.1 hi with h | h
      · exact h2 i h
      · simp at h
        subst h
        cases hf : leastOf xs l (firstAt xs i) with
        | none => rw [hf] at hc; simp at hc
        | some m =>
          rw [hf] at hc
          simp at hc
          exact ⟨m, rfl, hc⟩
def stayI (xs : List Cand) (l : List Int) : List Int := l.filter fun i => !goneI xs (leastOf xs l) i
theorem stayI_ne {xs : List Cand} {l : List Int} (h : l ≠ []) : stayI xs l ≠ [] := by
  obtain ⟨h1, h2⟩ := leastOf_spec xs l
  obtain ⟨i, hi⟩ := List.exists_mem_of_ne_nil l h
  obtain ⟨m, hm, hle⟩ := h2 i hi
  obtain ⟨k, hk, e1, e2⟩ := h1 _ _ hm
  intro he
  have : k ∈ stayI xs l := by
    unfold stayI
    rw [List.mem_filter]
    refine ⟨hk, ?_⟩
    unfold goneI
    rw [e1, hm, e2]
    simp
  rw [he] at this
  simp at this
theorem cmpI_self (a : Int) : cmpI a a = 0 := by simp [cmpI]
theorem beforeI_self (a : Cand) : beforeI a a = 0 := by simp [beforeI, orL, cmpI_self]
/-- which is the best one -/
def bestI (xs : List Cand) : Int :=
  if xs = [] then -1 else bestBy (rankI xs) 0 (stayI xs (leftTo xs (bestBy beforeI (candAt xs 0) xs) xs.length))
theorem leftTo_ne {xs : List Cand} {f : Cand} (h : f ∈ xs) : leftTo xs f xs.length ≠ [] := by
  obtain ⟨k, hk, rfl⟩ := List.mem_iff_getElem.1 h
  have : (k : Int) ∈ leftTo xs xs[k] xs.length := leftTo_mem.2 ⟨k, hk, rfl, by rw [candAt_get (List.getElem?_eq_getElem hk)]; exact beforeI_self _⟩
  intro he
  rw [he] at this
  simp at this
end Go.Proofs.Ytngfabnkgpidjaa
