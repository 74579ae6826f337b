/- What union makes of rows of headers, plain: strictly ordered, the members of both. -/
import Derived.Test.YtjeligbgcofaeaaDoorPoF
namespace Go.Proofs.YtjeligbgcofaeaaDoor
open Go.RowKit Go.Sort Go.Shelf
set_option linter.unusedVariables false
set_option linter.unusedSimpArgs false

abbrev ltO (a b : OHdr) : Prop := cmpO a b < 0
theorem ltO_trans {a b c : OHdr} (h1 : ltO a b) (h2 : ltO b c) : ltO a c := cmpL_trans h1 h2
theorem ltO_irrefl (a : OHdr) : ¬ ltO a a := by
  intro h
  have := cmpL_self (keyH a.1)
  unfold ltO cmpO cmpH at h
  omega
theorem ltO_asymm {a b : OHdr} (h : ltO a b) : ¬ ltO b a := fun h2 => ltO_irrefl a (ltO_trans h h2)
theorem ltO_tot (a b : OHdr) (h1 : ¬ ltO a b) (h2 : ¬ ltO b a) : a = b :=
  totO a b (by rw [ltO_iff, decide_eq_false_iff_not]; exact h1) (by rw [ltO_iff, decide_eq_false_iff_not]; exact h2)
theorem sortO_sorted (xs : List OHdr) : (sortO xs).Pairwise fun p q => ¬ ltO q p := by
  have h := List.pairwise_mergeSort (le := fun x y => !ltOf cmpO y x) (fun a b c h1 h2 => by
    simp only [Bool.not_eq_true'] at *
    exact swoO.ntrans _ _ _ h2 h1) (fun a b => by
    cases h : ltOf cmpO b a
    · simp
    · have : ltOf cmpO a b = false := by
        rw [ltO_iff, decide_eq_false_iff_not]
        rw [ltO_iff, decide_eq_true_eq] at h
        exact ltO_asymm h
      simp [this]) xs
  refine h.imp ?_
  intro a b hab hlt
  have : ltOf cmpO b a = true := by rw [ltO_iff, decide_eq_true_eq]; exact hlt
  simp [this] at hab
theorem unionO_spec (xs ys : List OHdr) : (unionO xs ys).Pairwise ltO ∧ ∀ p, p ∈ unionO xs ys ↔ p ∈ xs ∨ p ∈ ys := by
  have hl : (sortO (xs ++ ys)).length = xs.length + ys.length := by rw [sortO_len, List.length_append]
  have h := compactK_spec (eqb := eqO) (lt := ltO) (fun x y => eqO_iff x y) (fun _ _ _ h1 h2 => ltO_trans h1 h2) ltO_tot (sortO_sorted (xs ++ ys)) (xs.length + ys.length) (by rw [hl]; omega)
  refine ⟨h.1, fun p => ?_⟩
  have h2 := h.2.1 p
  rw [List.take_of_length_le (by rw [hl]; omega)] at h2
  unfold unionO
  rw [h2, (sortO_perm _).mem_iff, List.mem_append]
theorem strict_unique : ∀ {xs ys : List OHdr}, xs.Pairwise ltO → ys.Pairwise ltO → (∀ p, p ∈ xs ↔ p ∈ ys) → xs = ys
  | [], [], _, _, _ => rfl
  | [], y :: ys, _, _, h => by have := (h y).2 (by simp); cases this
  | x :: xs, [], _, _, h => by have := (h x).1 (by simp); cases this
  | x :: xs, y :: ys, hx, hy, h => by
    rw [List.pairwise_cons] at hx hy
    have hxy : x = y := by
      have h1 := (h x).1 (by simp)
      have h2 := (h y).2 (by simp)
      rcases List.mem_cons.1 h1 with e | h1
      · exact e
      · rcases List.mem_cons.1 h2 with e | h2
        · exact e.symm
        · exact absurd (hx.1 y h2) (ltO_asymm (hy.1 x h1))
    subst hxy
    congr 1
    refine strict_unique hx.2 hy.2 fun p => ?_
    constructor
    · intro hp
      rcases List.mem_cons.1 ((h p).1 (by simp [hp])) with e | h1
      · subst e
        exact absurd (hx.1 p hp) (ltO_irrefl p)
      · exact h1
    · intro hp
      rcases List.mem_cons.1 ((h p).2 (by simp [hp])) with e | h1
      · subst e
        exact absurd (hy.1 p hp) (ltO_irrefl p)
      · exact h1
theorem unionO_nil {ys : List OHdr} (h : ys.Pairwise ltO) : unionO [] ys = ys :=
  strict_unique (unionO_spec _ _).1 h fun p => by rw [(unionO_spec [] ys).2]; simp
theorem pair_one (x : OHdr) : [x].Pairwise ltO := List.pairwise_singleton _ _
theorem unionO_one (x : OHdr) : unionO [] [x] = [x] := unionO_nil (pair_one x)
theorem unionO_two {x y : OHdr} (h : ltO x y) : unionO [x] [y] = [x, y] :=
  strict_unique (unionO_spec _ _).1 (by simp [h]) fun p => by rw [(unionO_spec [x] [y]).2]; simp
/-! ### what walk says a policy is -/
theorem walkKs_cons {x : Nd} {r : List Nd} {k : Int} {i : Nat} {all left deep : Int} (h : (walkKs (x :: r) k i all left deep).2 = 0) : (walkN x (wantK k i) (left - all) deep).2 = 0 ∧ (walkKs r k (i + 1) (all + (walkN x (wantK k i) (left - all) deep).1) left deep).2 = 0 := by
  rw [walkKs] at h
  split at h
  · rename_i he
    exact absurd h he
  · rename_i he
    exact ⟨by simpa using he, h⟩
mutual
theorem goodR_walk : ∀ (x : Nd) (want : Bool) (left deep : Int), (walkN x want left deep).2 = 0 → goodR x = true
  | .mk k f v m ks, want, left, deep, h => by
    rw [walkN] at h
    split at h
    · cases h
    · split at h
      · cases h
      · split at h
        · cases h
        · split at h
          · cases h
          · split at h
            · cases h
            · rename_i h5
              split at h
              · cases h
              · rename_i h6
                rw [goodR]
                split
                · rename_i hk
                  subst hk
                  have hl : ks.length = 1 := by
                    have e1 : loK 13 = 1 := rfl
                    have e2 : hiK 13 = 1 := rfl
                    omega
                  match ks, hl, h with
                  | [p], _, h => rw [goodFil]; exact fOk_walk p _ _ _ (walkKs_cons h).1
                · split
                  · rename_i hk
                    subst hk
                    simp only [Bool.and_eq_true, decide_eq_true_eq]
                    omega
                  · split
                    · exact goodRs_walk ks k 0 1 left (deep - 1) h
                    · split
                      · rename_i hk
                        subst hk
                        have hl : ks.length = 3 := by
                          have e1 : loK 17 = 3 := rfl
                          have e2 : hiK 17 = 3 := rfl
                          omega
                        match ks, hl, h with
                        | [p, a, b], _, h =>
                          have g1 := walkKs_cons h
                          have g2 := walkKs_cons g1.2
                          have g3 := walkKs_cons g2.2
                          rw [goodIf, fOk_walk p _ _ _ g1.1, goodR_walk a _ _ _ g2.1, goodR_walk b _ _ _ g3.1]
                          rfl
                      · rfl
theorem goodRs_walk : ∀ (ks : List Nd) (k : Int) (i : Nat) (all left deep : Int), (walkKs ks k i all left deep).2 = 0 → goodRs ks = true
  | [], k, i, all, left, deep, _ => by rw [goodRs]
  | x :: r, k, i, all, left, deep, h => by
    have g := walkKs_cons h
    rw [goodRs, goodR_walk x _ _ _ g.1, goodRs_walk r k (i + 1) _ left deep g.2]
    rfl
end
end Go.Proofs.YtjeligbgcofaeaaDoor
