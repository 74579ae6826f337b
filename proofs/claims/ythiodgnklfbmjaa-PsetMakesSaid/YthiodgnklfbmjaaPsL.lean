/- The order of lists of prefixes, in plain. -/
import Derived.Test.YthiodgnklfbmjaaPsK
namespace Go.Proofs.Ythiodgnklfbmjaa
open Go.RowKit
set_option linter.unusedVariables false

theorem cmpP_cases (p q : Pfx) : (cmpP p q = -1 ∧ (p.addr < q.addr ∨ (p.addr = q.addr ∧ p.len < q.len))) ∨ (cmpP p q = 0 ∧ p = q) ∨ (cmpP p q = 1 ∧ (q.addr < p.addr ∨ (p.addr = q.addr ∧ q.len < p.len))) := by
  obtain ⟨a, l⟩ := p
  obtain ⟨b, m⟩ := q
  unfold cmpP
  simp only [Pfx.mk.injEq]
  split
  · rename_i h; exact .inl ⟨rfl, h⟩
  · rename_i h
    split
    · rename_i h2; exact .inr (.inl ⟨rfl, h2⟩)
    · rename_i h2; exact .inr (.inr ⟨rfl, by omega⟩)
theorem cmpP_neg (p q : Pfx) : cmpP p q = - cmpP q p := by
  rcases cmpP_cases p q with ⟨h1, h2⟩ | ⟨h1, h2⟩ | ⟨h1, h2⟩ <;> rcases cmpP_cases q p with ⟨h3, h4⟩ | ⟨h3, h4⟩ | ⟨h3, h4⟩ <;> rw [h1, h3] <;> first | rfl | (exfalso; subst h2; omega) | (exfalso; subst h4; omega) | (exfalso; omega)
theorem cmpPs_neg : ∀ xs ys : List Pfx, cmpPs xs ys = - cmpPs ys xs
  | [], [] => rfl
  | [], _ :: _ => rfl
  | _ :: _, [] => rfl
  | p :: ps, q :: qs => by
    have h := cmpP_neg p q
    unfold cmpPs
    by_cases h1 : cmpP p q = 0
    · rw [if_pos h1, if_pos (by omega), cmpPs_neg ps qs]
    · rw [if_neg h1, if_neg (by omega), h]
theorem cmpPs_zero : ∀ xs ys : List Pfx, (cmpPs xs ys == 0) = eqPs xs ys
  | [], [] => rfl
  | [], _ :: _ => rfl
  | _ :: _, [] => rfl
  | p :: ps, q :: qs => by
    have ih := cmpPs_zero ps qs
    unfold cmpPs
    by_cases h1 : cmpP p q = 0
    · rw [if_pos h1, ih, cmpP_zero.1 h1]
      simp [eqPs]
    · rw [if_neg h1]
      have h2 : p ≠ q := fun e => h1 (cmpP_zero.2 e)
      have h3 : eqPs (p :: ps) (q :: qs) = false := eqPs_false (by simp [h2])
      rw [h3]
      simpa using h1
theorem cmpPs_bounds : ∀ xs ys : List Pfx, -1 ≤ cmpPs xs ys ∧ cmpPs xs ys ≤ 1
  | [], [] => by simp [cmpPs]
  | [], _ :: _ => by simp [cmpPs]
  | _ :: _, [] => by simp [cmpPs]
  | p :: ps, q :: qs => by
    have ih := cmpPs_bounds ps qs
    unfold cmpPs
    split
    · exact ih
    · rcases cmpP_cases p q with ⟨h1, h2⟩ | ⟨h1, h2⟩ | ⟨h1, h2⟩ <;> omega
theorem cmpPs_trans : ∀ {s t u : List Pfx}, cmpPs s t < 0 → cmpPs t u < 0 → cmpPs s u < 0
  | [], [], _, h1, h2 => by simp [cmpPs] at h1
  | [], _ :: _, [], h1, h2 => by simp [cmpPs] at h2
  | [], _ :: _, _ :: _, h1, h2 => by simp [cmpPs]
  | _ :: _, [], _, h1, h2 => by simp [cmpPs] at h1
  | _ :: _, _ :: _, [], h1, h2 => by simp [cmpPs] at h2
  | p :: ps, q :: qs, r :: rs, h1, h2 => by
    have ih := @cmpPs_trans ps qs rs
    unfold cmpPs at h1 h2 ⊢
    rcases cmpP_cases p q with ⟨a1, a2⟩ | ⟨a1, a2⟩ | ⟨a1, a2⟩
    · rcases cmpP_cases q r with ⟨b1, b2⟩ | ⟨b1, b2⟩ | ⟨b1, b2⟩
      · have : cmpP p r < 0 := by rw [cmpP_lt]; omega
        rw [if_neg (by omega)]; exact this
      · subst b2
        rw [if_neg (by omega)]; omega
      · rw [if_neg (by omega)] at h2
        omega
    · subst a2
      rw [if_pos a1] at h1
      rcases cmpP_cases p r with ⟨b1, b2⟩ | ⟨b1, b2⟩ | ⟨b1, b2⟩
      · rw [if_neg (by omega)]; omega
      · rw [if_pos b1] at h2 ⊢
        exact ih h1 h2
      · rw [if_neg (by omega)] at h2
        omega
    · rw [if_neg (by omega)] at h1
      omega
theorem cmpPs_first {xs ys : List Pfx} {k : Nat} {p q : Pfx} (h : xs.take k = ys.take k) (hx : xs[k]? = some p) (hy : ys[k]? = some q) (hne : p ≠ q) : cmpPs xs ys = cmpP p q := by
  rw [cmpPs_take h]
  obtain ⟨h1, h2⟩ := List.getElem?_eq_some_iff.1 hx
  obtain ⟨h3, h4⟩ := List.getElem?_eq_some_iff.1 hy
  rw [List.drop_eq_getElem_cons h1, List.drop_eq_getElem_cons h3, h2, h4]
  unfold cmpPs
  rw [if_neg (fun e => hne (cmpP_zero.1 e))]
theorem cmpPs_len {xs ys : List Pfx} {k : Nat} (h : xs.take k = ys.take k) (hk : ¬ (k < xs.length ∧ k < ys.length)) (h1 : k ≤ xs.length) (h2 : k ≤ ys.length) : decide (cmpPs xs ys < 0) = decide (xs.length < ys.length) := by
  rw [cmpPs_take h]
  rcases Nat.lt_or_ge k xs.length with a | a
  · have b : ys.drop k = [] := List.drop_eq_nil_of_le (by omega)
    rw [b, List.drop_eq_getElem_cons a]
    have : ¬ xs.length < ys.length := by omega
    simp [cmpPs, this]
  · rw [List.drop_eq_nil_of_le a]
    rcases Nat.lt_or_ge k ys.length with b | b
    · rw [List.drop_eq_getElem_cons b]
      have : xs.length < ys.length := by omega
      simp [cmpPs, this]
    · rw [List.drop_eq_nil_of_le b]
      have : ¬ xs.length < ys.length := by omega
      simp [cmpPs, this]
end Go.Proofs.Ythiodgnklfbmjaa
