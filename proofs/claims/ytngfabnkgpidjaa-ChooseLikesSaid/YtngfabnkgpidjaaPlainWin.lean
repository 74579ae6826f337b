/- The plain law on the best route by what it is, not where it stands: routes in another order have the same best one. -/
import Derived.Test.YtngfabnkgpidjaaOrderA
namespace Go.Proofs.Ytngfabnkgpidjaa
open Go.RowKit
set_option linter.unusedVariables false

def top (xs : List Cand) (c : Cand) : Prop := ∀ x ∈ xs, ¬ beforeI x c < 0
def stays (xs : List Cand) (c : Cand) : Prop := top xs c ∧ ∀ x ∈ xs, top xs x → x.at_.first = c.at_.first → c.at_.med ≤ x.at_.med
def win (xs : List Cand) (c : Cand) : Prop := stays xs c ∧ ∀ x ∈ xs, stays xs x → ¬ lastI x c < 0

theorem top_iff {xs : List Cand} {f c : Cand} (hf : f ∈ xs) (hm : ∀ x ∈ xs, ¬ beforeI x f < 0) (hc : c ∈ xs) : top xs c ↔ beforeI c f = 0 := by
  constructor
  · intro h
    have h1 := h f hf
    have h2 := hm c hc
    rw [before_lt] at h1 h2
    rw [before_zero]
    omega
  · intro h x hx
    have h2 := hm x hx
    rw [before_lt] at h2 ⊢
    rw [before_zero] at h
    omega
theorem stay_iff {xs : List Cand} {f : Cand} (hf : f ∈ xs) (hm : ∀ x ∈ xs, ¬ beforeI x f < 0) (k : Int) :
    k ∈ stayI xs (leftTo xs f xs.length) ↔ ∃ (i : Nat) (x : Cand), k = (i : Int) ∧ xs[i]? = some x ∧ stays xs x := by
  obtain ⟨h1, h2⟩ := leastOf_spec xs (leftTo xs f xs.length)
  have hin : ∀ (i : Nat) (x : Cand), xs[i]? = some x → ((i : Int) ∈ leftTo xs f xs.length ↔ top xs x) := fun i x hx => by
    rw [leftTo_mem, top_iff hf hm (List.mem_of_getElem? hx)]
    constructor
    · rintro ⟨j, hj, e, h⟩
      obtain rfl : i = j := by omega
      rwa [candAt_get hx] at h
    · intro h
      exact ⟨i, (List.getElem?_eq_some_iff.1 hx).1, rfl, by rwa [candAt_get hx]⟩
  have hall : ∀ t ∈ leftTo xs f xs.length, ∃ (j : Nat) (y : Cand), t = (j : Int) ∧ xs[j]? = some y ∧ top xs y ∧ firstAt xs t = y.at_.first ∧ medAt xs t = y.at_.med := fun t ht => by
    obtain ⟨j, hj, rfl, hz⟩ := leftTo_mem.1 ht
    have hy := List.getElem?_eq_getElem hj
    refine ⟨j, xs[j], rfl, hy, (hin j _ hy).1 ht, ?_, ?_⟩
    · unfold firstAt; rw [candAt_get hy]
    · unfold medAt; rw [candAt_get hy]
  unfold stayI
  rw [List.mem_filter]
  constructor
  · rintro ⟨hk, hg⟩
    obtain ⟨i, x, rfl, hx, htop, e1, e2⟩ := hall k hk
    refine ⟨i, x, rfl, hx, htop, fun y hy hyt he => ?_⟩
    obtain ⟨j, hj, rfl⟩ := List.mem_iff_getElem.1 hy
    have hjx := List.getElem?_eq_getElem hj
    have hjl := (hin j _ hjx).2 hyt
    obtain ⟨m, hm1, hm2⟩ := h2 (j : Int) hjl
    obtain ⟨j', y', e0, hy', _, e3, e4⟩ := hall (j : Int) hjl
    obtain rfl : j = j' := by omega
    rw [hjx] at hy'
    cases hy'
    rw [e3, he, ← e1] at hm1
    rw [e4] at hm2
    unfold goneI at hg
    rw [hm1, e2] at hg
    simp at hg
    omega
  · rintro ⟨i, x, rfl, hx, htop, hmin⟩
    have hil := (hin i x hx).2 htop
    refine ⟨hil, ?_⟩
    obtain ⟨m, hm1, hm2⟩ := h2 (i : Int) hil
    obtain ⟨t, ht, e1, e2⟩ := h1 _ _ hm1
    obtain ⟨j, y, rfl, hy, hyt, e3, e4⟩ := hall t ht
    obtain ⟨i', x', e0, hx', _, e5, e6⟩ := hall (i : Int) hil
    obtain rfl : i = i' := by omega
    rw [hx] at hx'
    cases hx'
    have := hmin y (List.mem_of_getElem? hy) hyt (by rw [← e3, e1, e5])
    unfold goneI
    rw [hm1, e6]
    simp
    omega
/-- the best one is there, and wins -/
theorem best_win {xs : List Cand} (h : xs ≠ []) : ∃ (i : Nat) (c : Cand), bestI xs = (i : Int) ∧ xs[i]? = some c ∧ win xs c := by
  have hfm : bestBy beforeI (candAt xs 0) xs ∈ xs := bestBy_mem _ _ h
  have hmin : ∀ x ∈ xs, ¬ beforeI x (bestBy beforeI (candAt xs 0) xs) < 0 :=
    bestBy_min (fun a b c h1 h2 => .inr (fun h3 => by rw [before_lt] at *; omega)) before_ir (fun a b c => before_nt) (fun a b => before_as) _ _
  obtain ⟨f, hf⟩ : ∃ f, f = bestBy beforeI (candAt xs 0) xs := ⟨_, rfl⟩
  rw [← hf] at hfm hmin
  have hsi := stay_iff hfm hmin
  have hne : stayI xs (leftTo xs f xs.length) ≠ [] := stayI_ne (leftTo_ne hfm)
  have hbm := bestBy_mem (rankI xs) 0 hne
  have hmn := bestBy_min (cf := rankI xs) (fun a b c h1 h2 => .inr (fun h3 => by rw [rank_lt, last_lt, last_zero] at *; omega)) (fun a => by rw [rank_lt, last_lt, last_zero]; omega) (fun a b c h1 h2 => by rw [rank_lt, last_lt, last_zero] at *; omega) (fun a b h => by rw [rank_lt, last_lt, last_zero] at *; omega) 0 (stayI xs (leftTo xs f xs.length))
  obtain ⟨i, c, e, hc, hst⟩ := (hsi _).1 hbm
  refine ⟨i, c, by rw [bestI, if_neg h, ← hf]; exact e, hc, hst, fun x hx hxs hlt => ?_⟩
  obtain ⟨j, hj, rfl⟩ := List.mem_iff_getElem.1 hx
  have hjx := List.getElem?_eq_getElem hj
  have := hmn (j : Int) ((hsi _).2 ⟨j, _, rfl, hjx, hxs⟩)
  rw [e, rank_lt, candAt_get hjx, candAt_get hc] at this
  exact this (.inl hlt)
theorem win_congr {xs ys : List Cand} (h : ∀ x, x ∈ xs ↔ x ∈ ys) {c : Cand} : win xs c ↔ win ys c := by
  have h1 : ∀ c, top xs c ↔ top ys c := fun c => ⟨fun k x hx => k x ((h x).2 hx), fun k x hx => k x ((h x).1 hx)⟩
  have h2 : ∀ c, stays xs c ↔ stays ys c := fun c => by
    unfold stays
    rw [h1 c]
    constructor
    · rintro ⟨a, b⟩
      exact ⟨a, fun x hx ht => b x ((h x).2 hx) ((h1 x).2 ht)⟩
    · rintro ⟨a, b⟩
      exact ⟨a, fun x hx ht => b x ((h x).1 hx) ((h1 x).1 ht)⟩
  unfold win
  rw [h2 c]
  constructor
  · rintro ⟨a, b⟩
    exact ⟨a, fun x hx ht => b x ((h x).2 hx) ((h2 x).2 ht)⟩
  · rintro ⟨a, b⟩
    exact ⟨a, fun x hx ht => b x ((h x).1 hx) ((h2 x).1 ht)⟩
/-- no two are alike in id and peer -/
def apartL (xs : List Cand) : Prop := ∀ (i k : Nat) (x y : Cand), xs[i]? = some x → xs[k]? = some y → x.id = y.id → x.peer = y.peer → i = k
theorem win_one {xs : List Cand} (ha : apartL xs) {i k : Nat} {c d : Cand} (hi : xs[i]? = some c) (hk : xs[k]? = some d) (h1 : win xs c) (h2 : win xs d) : i = k := by
  have a := h1.2 d (List.mem_of_getElem? hk) h2.1
  have b := h2.2 c (List.mem_of_getElem? hi) h1.1
  rw [last_lt] at a b
  exact ha i k c d hi hk (by omega) (by omega)
theorem best_moved {xs ys : List Cand} (ha : apartL xs) (hne : xs ≠ []) (hm : ∀ x, x ∈ xs ↔ x ∈ ys) (σ : Nat → Nat) (hσ : ∀ j, j < ys.length → xs[σ j]? = ys[j]?) :
    ∃ a b : Nat, bestI xs = (a : Int) ∧ bestI ys = (b : Int) ∧ a < xs.length ∧ b < ys.length ∧ a = σ b := by
  have hny : ys ≠ [] := by
    obtain ⟨x, r, rfl⟩ := List.exists_cons_of_ne_nil hne
    intro h
    have := (hm x).1 (by simp)
    rw [h] at this
    simp at this
  obtain ⟨a, c, e1, hc, hw⟩ := best_win hne
  obtain ⟨b, d, e2, hd, hv⟩ := best_win hny
  have hb := (List.getElem?_eq_some_iff.1 hd).1
  exact ⟨a, b, e1, e2, (List.getElem?_eq_some_iff.1 hc).1, hb, win_one ha hc ((hσ b hb).trans hd) hw ((win_congr hm).2 hv)⟩
theorem turned_at {xs : List Cand} {by_ : Nat} (h : by_ < xs.length) (j : Nat) (hj : j < xs.length) : xs[(j + by_) % xs.length]? = (xs.drop by_ ++ xs.take by_)[j]? := by
  rw [List.getElem?_append, List.length_drop]
  by_cases hlt : j < xs.length - by_
  · rw [if_pos hlt, List.getElem?_drop, Nat.mod_eq_of_lt (by omega), Nat.add_comm]
  · rw [if_neg hlt, List.getElem?_take, if_pos (by omega)]
    congr 1
    rw [Nat.mod_eq_sub_mod (by omega), Nat.mod_eq_of_lt (by omega)]
    omega
theorem best_turned {xs : List Cand} (ha : apartL xs) (hne : xs ≠ []) {by_ : Nat} (h : by_ < xs.length) :
    ∃ a b : Nat, bestI xs = (a : Int) ∧ bestI (xs.drop by_ ++ xs.take by_) = (b : Int) ∧ a < xs.length ∧ (b : Int) = ((a : Int) - by_ + xs.length).tmod xs.length := by
  obtain ⟨a, b, e1, e2, h1, h2, h3⟩ := best_moved (ys := xs.drop by_ ++ xs.take by_) ha hne (fun x => by
    conv => lhs; rw [← List.take_append_drop by_ xs]
    rw [List.mem_append, List.mem_append]
    exact Or.comm) (fun j => (j + by_) % xs.length) (fun j hj => turned_at h j (by simp at hj; omega))
  refine ⟨a, b, e1, e2, h1, ?_⟩
  have hb : b < xs.length := by simp at h2; omega
  have e : ((a : Int) - by_ + xs.length) = ((a + xs.length - by_ : Nat) : Int) := by omega
  rw [e, Int.tmod_eq_emod_of_nonneg (by omega), ← Int.natCast_emod]
  congr 1
  rcases Nat.lt_or_ge (b + by_) xs.length with hlt | hge
  · rw [Nat.mod_eq_of_lt hlt] at h3
    rw [show a + xs.length - by_ = b + xs.length by omega, Nat.add_mod_right, Nat.mod_eq_of_lt hb]
  · rw [Nat.mod_eq_sub_mod hge, Nat.mod_eq_of_lt (by omega)] at h3
    rw [show a + xs.length - by_ = b by omega, Nat.mod_eq_of_lt hb]
theorem best_back {xs : List Cand} (ha : apartL xs) (hne : xs ≠ []) : ∃ a b : Nat, bestI xs = (a : Int) ∧ bestI xs.reverse = (b : Int) ∧ a < xs.length ∧ (b : Int) = (xs.length : Int) - 1 - a := by
  obtain ⟨a, b, e1, e2, h1, h2, h3⟩ := best_moved (ys := xs.reverse) ha hne (fun x => by simp) (fun j => xs.length - 1 - j) (fun j hj => by
    rw [List.getElem?_reverse (by simpa using hj)])
  rw [List.length_reverse] at h2
  exact ⟨a, b, e1, e2, h1, by omega⟩
end Go.Proofs.Ytngfabnkgpidjaa
