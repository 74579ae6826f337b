/- The plain law: what choose.Best returns is what the reference returns. -/
import Derived.Test.YtngfabnkgpidjaaRefSt
import Derived.Test.YtngfabnkgpidjaaChooseF
namespace Go.Proofs.Ytngfabnkgpidjaa
open Go.RowKit
set_option linter.unusedVariables false

theorem cmpI_lt {a b : Int} : cmpI a b < 0 ↔ a < b := by unfold cmpI; split <;> (try split) <;> omega
theorem cmpI_zero {a b : Int} : cmpI a b = 0 ↔ a = b := by unfold cmpI; split <;> (try split) <;> omega
theorem before_lt {a b : Cand} : beforeI a b < 0 ↔ b.at_.likes < a.at_.likes ∨ (b.at_.likes = a.at_.likes ∧ ((a.at_.hops : Int) < b.at_.hops ∨ ((a.at_.hops : Int) = b.at_.hops ∧ a.at_.origin < b.at_.origin))) := by
  unfold beforeI orL orL orL orL cmpI
  repeat' split
  all_goals omega
theorem before_zero {a b : Cand} : beforeI a b = 0 ↔ b.at_.likes = a.at_.likes ∧ (a.at_.hops : Int) = b.at_.hops ∧ a.at_.origin = b.at_.origin := by
  unfold beforeI orL orL orL orL cmpI
  repeat' split
  all_goals omega
theorem last_lt {a b : Cand} : lastI a b < 0 ↔ a.id < b.id ∨ (a.id = b.id ∧ a.peer < b.peer) := by
  unfold lastI orL orL orL cmpI
  repeat' split
  all_goals omega
theorem last_zero {a b : Cand} : lastI a b = 0 ↔ a.id = b.id ∧ a.peer = b.peer := by
  unfold lastI orL orL orL cmpI
  repeat' split
  all_goals omega

/-- bestBy returns one that none is before -/
theorem minBy_min {α : Type} {cf : α → α → Int} (trans : ∀ a b c, cf a b < 0 → ¬ cf c b < 0 → cf a c < 0 ∨ ¬ cf c a < 0) (irr : ∀ a, ¬ cf a a < 0) (neg : ∀ a b c, ¬ cf a b < 0 → ¬ cf b c < 0 → ¬ cf a c < 0) (asym : ∀ a b, cf a b < 0 → ¬ cf b a < 0) :
    ∀ (l : List α) (m : α), (∀ x ∈ l, ¬ cf x (minBy cf m l) < 0) ∧ ¬ cf m (minBy cf m l) < 0
  | [], m => ⟨by simp, irr m⟩
  | y :: r, m => by
    obtain ⟨h1, h2⟩ := minBy_min trans irr neg asym r (if cf y m < 0 then y else m)
    simp only [minBy]
    by_cases hy : cf y m < 0
    · rw [if_pos hy] at h1 h2 ⊢
      refine ⟨fun x hx => ?_, neg _ _ _ (asym _ _ hy) h2⟩
      rcases List.mem_cons.1 hx with rfl | hx
      · exact h2
      · exact h1 x hx
    · rw [if_neg hy] at h1 h2 ⊢
      refine ⟨fun x hx => ?_, h2⟩
      rcases List.mem_cons.1 hx with rfl | hx
      · exact neg _ _ _ hy h2
      · exact h1 x hx
theorem bestBy_min {α : Type} {cf : α → α → Int} (trans : ∀ a b c, cf a b < 0 → ¬ cf c b < 0 → cf a c < 0 ∨ ¬ cf c a < 0) (irr : ∀ a, ¬ cf a a < 0) (neg : ∀ a b c, ¬ cf a b < 0 → ¬ cf b c < 0 → ¬ cf a c < 0) (asym : ∀ a b, cf a b < 0 → ¬ cf b a < 0) (d : α) :
    ∀ l : List α, ∀ x ∈ l, ¬ cf x (bestBy cf d l) < 0
  | [], x, hx => by simp at hx
  | y :: r, x, hx => by
    obtain ⟨h1, h2⟩ := minBy_min trans irr neg asym r y
    rcases List.mem_cons.1 hx with rfl | hx
    · exact h2
    · exact h1 x hx
theorem mem_keepL {num : List Int} {left : List Nat} {i : Nat} : i ∈ keepL num left ↔ i ∈ left ∧ ∀ k ∈ left, ¬ numAt num k < numAt num i := by
  unfold keepL keepP
  rw [List.mem_filter, List.all_eq_true]
  simp

theorem mem_keep3 {f g h : List Int} {n i : Nat} : i ∈ keepL h (keepL g (keepL f (List.range n))) ↔
    i < n ∧ ∀ k, k < n → ¬ (numAt f k < numAt f i ∨ (numAt f k = numAt f i ∧ (numAt g k < numAt g i ∨ (numAt g k = numAt g i ∧ numAt h k < numAt h i)))) := by
  simp only [mem_keepL, List.mem_range]
  constructor
  · rintro ⟨⟨⟨hi, h1⟩, h2⟩, h3⟩
    refine ⟨hi, fun k hk hc => ?_⟩
    have a1 := h1 k hk
    rcases hc with hc | ⟨e1, hc⟩
    · exact a1 hc
    · have m1 : ∀ j, j < n → ¬ numAt f j < numAt f k := fun j hj => by have := h1 j hj; omega
      have a2 := h2 k ⟨hk, m1⟩
      rcases hc with hc | ⟨e2, hc⟩
      · exact a2 hc
      · refine h3 k ⟨⟨hk, m1⟩, fun j hj => ?_⟩ hc
        have := h2 j hj
        omega
  · rintro ⟨hi, hm⟩
    have b1 : ∀ k, k < n → ¬ numAt f k < numAt f i := fun k hk hc => hm k hk (.inl hc)
    have b2 : ∀ k, (k < n ∧ ∀ j, j < n → ¬ numAt f j < numAt f k) → ¬ numAt g k < numAt g i := by
      rintro k ⟨hk, hkm⟩ hc
      have e1 : numAt f k = numAt f i := by have := b1 k hk; have := hkm i hi; omega
      exact hm k hk (.inr ⟨e1, .inl hc⟩)
    refine ⟨⟨⟨hi, b1⟩, b2⟩, ?_⟩
    rintro k ⟨⟨hk, hkm⟩, hkg⟩ hc
    have e1 : numAt f k = numAt f i := by have := b1 k hk; have := hkm i hi; omega
    have e2 : numAt g k = numAt g i := by have := b2 k ⟨hk, hkm⟩; have := hkg i ⟨hi, b1⟩; omega
    exact hm k hk (.inr ⟨e1, .inr ⟨e2, hc⟩⟩)
theorem keep3_filter {f g h : List Int} {n : Nat} {p : Nat → Bool} (hp : ∀ i, i ∈ keepL h (keepL g (keepL f (List.range n))) ↔ i < n ∧ p i = true) : keepL h (keepL g (keepL f (List.range n))) = (List.range n).filter p := by
  have e : keepL h (keepL g (keepL f (List.range n))) = (List.range n).filter fun i => (keepP h (keepL g (keepL f (List.range n))) i && keepP g (keepL f (List.range n)) i) && keepP f (List.range n) i := by
    conv => lhs; rw [keepL]
    conv => lhs; arg 2; rw [keepL]
    conv => lhs; arg 2; arg 2; rw [keepL]
    rw [List.filter_filter, List.filter_filter]
  have e2 := hp
  rw [e] at e2 ⊢
  refine List.filter_congr fun i hi => ?_
  have h1 := e2 i
  rw [List.mem_filter] at h1
  have h2 := List.mem_range.1 hi
  rw [Bool.eq_iff_iff]
  constructor
  · intro hq; exact (h1.1 ⟨hi, hq⟩).2
  · intro hq; exact (h1.2 ⟨h2, hq⟩).2
theorem num_likes {xs : List Cand} {i : Nat} (hi : i < xs.length) : numAt (likesI (xs.map plainI)) i = 4294967296 - (candAt xs i).at_.likes := by
  simp [numAt, likesI, candAt, List.getD, hi, plainI]
theorem num_hops {xs : List Cand} {i : Nat} (hi : i < xs.length) : numAt (hopsI (xs.map plainI)) i = (candAt xs i).at_.hops := by
  simp [numAt, hopsI, candAt, List.getD, hi, plainI]
theorem num_origins {xs : List Cand} {i : Nat} (hi : i < xs.length) : numAt (originsI (xs.map plainI)) i = (candAt xs i).at_.origin := by
  simp [numAt, originsI, candAt, List.getD, hi, plainI]
theorem num_ids {xs : List Cand} {i : Nat} (hi : i < xs.length) : numAt (idsI (xs.map plainI)) i = (candAt xs i).id := by
  simp [numAt, idsI, candAt, List.getD, hi, plainI]
theorem num_peers {xs : List Cand} {i : Nat} (hi : i < xs.length) : numAt (peersI (xs.map plainI)) i = (candAt xs i).peer := by
  simp [numAt, peersI, candAt, List.getD, hi, plainI]
theorem num_first {xs : List Cand} {i : Nat} (hi : i < xs.length) : rFirst (xs.map plainI) i = (candAt xs i).at_.first := by
  simp [rFirst, candAt, List.getD, hi, plainI]
theorem num_med {xs : List Cand} {i : Nat} (hi : i < xs.length) : rMed (xs.map plainI) i = (candAt xs i).at_.med := by
  simp [rMed, candAt, List.getD, hi, plainI]
theorem leftTo_filter {xs : List Cand} {f : Cand} : ∀ n : Nat, leftTo xs f n = ((List.range n).filter fun k => decide (beforeI (candAt xs (k : Nat)) f = 0)).map placeI
  | 0 => rfl
  | n + 1 => by
    rw [leftTo, leftTo_filter n, List.range_succ, List.filter_append, List.map_append]
    by_cases h : beforeI (candAt xs (n : Nat)) f = 0
    · simp [h, placeI]
    · simp [h]

theorem before_nt {a b c : Cand} (h1 : ¬ beforeI a b < 0) (h2 : ¬ beforeI b c < 0) : ¬ beforeI a c < 0 := by
  rw [before_lt] at *
  omega
theorem before_as {a b : Cand} (h : beforeI a b < 0) : ¬ beforeI b a < 0 := by
  rw [before_lt] at *
  omega
theorem before_ir (a : Cand) : ¬ beforeI a a < 0 := by rw [beforeI_self]; omega
theorem cand_mem {xs : List Cand} {k : Nat} (hk : k < xs.length) : candAt xs (k : Int) ∈ xs := by
  rw [candAt_get (List.getElem?_eq_getElem hk)]
  exact List.getElem_mem hk
/-- the first three steps -/
theorem three_same {xs : List Cand} (hne : xs ≠ []) : leftTo xs (bestBy beforeI (candAt xs 0) xs) xs.length =
    (keepL (originsI (xs.map plainI)) (keepL (hopsI (xs.map plainI)) (keepL (likesI (xs.map plainI)) (List.range xs.length)))).map placeI := by
  obtain ⟨f, hf⟩ : ∃ f, f = bestBy beforeI (candAt xs 0) xs := ⟨_, rfl⟩
  rw [← hf, leftTo_filter]
  have hfm : f ∈ xs := by rw [hf]; exact bestBy_mem _ _ hne
  have hmin : ∀ x ∈ xs, ¬ beforeI x f < 0 := by
    rw [hf]
    exact bestBy_min (fun a b c h1 h2 => .inr (fun h3 => by rw [before_lt] at *; omega)) before_ir (fun a b c => before_nt) (fun a b => before_as) _ _
  obtain ⟨j, hj, hjf⟩ := List.mem_iff_getElem.1 hfm
  have hjc : candAt xs (j : Int) = f := by rw [candAt_get (List.getElem?_eq_getElem hj)]; exact hjf
  congr 1
  refine (keep3_filter fun i => ?_).symm
  rw [mem_keep3]
  constructor
  · rintro ⟨hi, hm⟩
    refine ⟨hi, decide_eq_true (before_zero.2 ?_)⟩
    have h1 := hm j hj
    rw [num_likes hj, num_likes hi, num_hops hj, num_hops hi, num_origins hj, num_origins hi, hjc] at h1
    have h2 := hmin _ (cand_mem hi)
    rw [before_lt] at h2
    omega
  · rintro ⟨hi, hz⟩
    refine ⟨hi, fun k hk => ?_⟩
    have h1 := before_zero.1 (of_decide_eq_true hz)
    have h2 := hmin _ (cand_mem hk)
    rw [before_lt] at h2
    rw [num_likes hk, num_likes hi, num_hops hk, num_hops hi, num_origins hk, num_origins hi]
    omega

/-- the fourth step -/
theorem stay_same {xs : List Cand} {L : List Nat} (hL : ∀ i ∈ L, i < xs.length) : stayI xs (L.map placeI) = (someL (xs.map plainI) L).map placeI := by
  obtain ⟨h1, h2⟩ := leastOf_spec xs (L.map placeI)
  unfold stayI someL
  rw [List.filter_map]
  congr 1
  refine List.filter_congr fun i hi => ?_
  obtain ⟨m, hm, hle⟩ := h2 (placeI i) (List.mem_map.2 ⟨i, hi, rfl⟩)
  rw [Bool.eq_iff_iff]
  simp only [Function.comp_apply, goneI, hm, Option.getD_some, Bool.not_eq_true', decide_eq_false_iff_not]
  unfold someP
  rw [List.all_eq_true]
  constructor
  · intro hn t ht
    rw [num_first (hL t ht), num_first (hL i hi), num_med (hL t ht), num_med (hL i hi)]
    obtain ⟨m', hm', hle'⟩ := h2 (placeI t) (List.mem_map.2 ⟨t, ht, rfl⟩)
    by_cases he : (candAt xs (t : Int)).at_.first = (candAt xs (i : Int)).at_.first
    · have e1 : firstAt xs (placeI t) = firstAt xs (placeI i) := he
      rw [e1, hm] at hm'
      cases hm'
      have e2 : medAt xs (placeI t) = (candAt xs (t : Int)).at_.med := rfl
      have e3 : medAt xs (placeI i) = (candAt xs (i : Int)).at_.med := rfl
      rw [e2] at hle'
      rw [e3] at hn
      have : decide ((candAt xs (t : Int)).at_.med < (candAt xs (i : Int)).at_.med) = false := decide_eq_false (by omega)
      simp [this]
    · have : ((candAt xs (t : Int)).at_.first == (candAt xs (i : Int)).at_.first) = false := by simpa using he
      simp [this]
  · intro ha hlt
    obtain ⟨t', ht', e1, e2⟩ := h1 _ _ hm
    obtain ⟨t, ht, rfl⟩ := List.mem_map.1 ht'
    have h3 := ha t ht
    rw [num_first (hL t ht), num_first (hL i hi), num_med (hL t ht), num_med (hL i hi)] at h3
    have e4 : (candAt xs (t : Int)).at_.first = (candAt xs (i : Int)).at_.first := e1
    have e5 : (candAt xs (t : Int)).at_.med = m := e2
    have e6 : medAt xs (placeI i) = (candAt xs (i : Int)).at_.med := rfl
    rw [e6] at hlt
    have : decide ((candAt xs (t : Int)).at_.med < (candAt xs (i : Int)).at_.med) = true := decide_eq_true (by omega)
    simp [this, e4] at h3
theorem rank_lt {xs : List Cand} {i k : Int} : rankI xs i k < 0 ↔ lastI (candAt xs i) (candAt xs k) < 0 ∨ (lastI (candAt xs i) (candAt xs k) = 0 ∧ i < k) := by
  unfold rankI orL orL orL cmpI
  repeat' split
  all_goals omega
theorem head_min {j : Nat} {r : List Nat} (h : (j :: r).Pairwise (· < ·)) : ∀ s ∈ j :: r, j ≤ s := by
  intro s hs
  rcases List.mem_cons.1 hs with rfl | hs
  · exact Nat.le_refl _
  · exact Nat.le_of_lt ((List.pairwise_cons.1 h).1 s hs)
/-- the last steps -/
theorem last_same {xs : List Cand} {S : List Nat} (hS : ∀ i ∈ S, i < xs.length) (hp : S.Pairwise (· < ·)) {j : Nat} {r : List Nat} (hj : keepL (peersI (xs.map plainI)) (keepL (idsI (xs.map plainI)) S) = j :: r) :
    bestBy (rankI xs) 0 (S.map placeI) = (j : Int) := by
  have hjm : j ∈ keepL (peersI (xs.map plainI)) (keepL (idsI (xs.map plainI)) S) := by rw [hj]; simp
  have hj2 := hjm
  rw [mem_keepL, mem_keepL] at hj2
  obtain ⟨⟨hjS, hid⟩, hpe⟩ := hj2
  have hne : S.map placeI ≠ [] := by intro h; have := List.map_eq_nil_iff.1 h; rw [this] at hjS; simp at hjS
  have hmin := bestBy_min (cf := rankI xs) (fun a b c h1 h2 => .inr (fun h3 => by rw [rank_lt, last_lt, last_zero] at *; omega)) (fun a => by rw [rank_lt, last_lt, last_zero]; omega) (fun a b c h1 h2 => by rw [rank_lt, last_lt, last_zero] at *; omega) (fun a b h => by rw [rank_lt, last_lt, last_zero] at *; omega) 0 (S.map placeI)
  obtain ⟨s, hs, e⟩ := List.mem_map.1 (bestBy_mem (rankI xs) 0 hne)
  rw [← e] at hmin ⊢
  have h1 := hmin (placeI j) (List.mem_map.2 ⟨j, hjS, rfl⟩)
  rw [rank_lt, last_lt, last_zero] at h1
  have h2 := hid s hs
  rw [num_ids (hS s hs), num_ids (hS j hjS)] at h2
  simp only [placeI] at h1 ⊢
  by_cases hid2 : (candAt xs (s : Int)).id = (candAt xs (j : Int)).id
  · have hsk : s ∈ keepL (idsI (xs.map plainI)) S := mem_keepL.2 ⟨hs, fun k hk => by
      have := hid k hk
      rw [num_ids (hS k hk), num_ids (hS j hjS)] at this
      rw [num_ids (hS k hk), num_ids (hS s hs)]
      omega⟩
    have h3 := hpe s hsk
    rw [num_peers (hS s hs), num_peers (hS j hjS)] at h3
    by_cases hpe2 : (candAt xs (s : Int)).peer = (candAt xs (j : Int)).peer
    · have hsp : s ∈ keepL (peersI (xs.map plainI)) (keepL (idsI (xs.map plainI)) S) := mem_keepL.2 ⟨hsk, fun k hk => by
        have := hpe k hk
        have hkS := (mem_keepL.1 hk).1
        rw [num_peers (hS k hkS), num_peers (hS j hjS)] at this
        rw [num_peers (hS k hkS), num_peers (hS s hs)]
        omega⟩
      rw [hj] at hsp
      have hpw : (j :: r).Pairwise (· < ·) := by
        rw [← hj]
        exact (hp.filter _).filter _
      have := head_min hpw s hsp
      omega
    · omega
  · omega
theorem best_same {xs : List Cand} : bestI xs = refBestI (xs.map plainI) := by
  by_cases hne : xs = []
  · subst hne
    rfl
  obtain ⟨L, hL⟩ : ∃ L, L = keepL (originsI (xs.map plainI)) (keepL (hopsI (xs.map plainI)) (keepL (likesI (xs.map plainI)) (List.range xs.length))) := ⟨_, rfl⟩
  have hLt : ∀ i ∈ L, i < xs.length := by
    rw [hL]
    exact keepL_sub (keepL_sub (keepL_sub fun i hi => List.mem_range.1 hi))
  have hLp : L.Pairwise (· < ·) := by
    rw [hL]
    exact ((List.pairwise_lt_range.filter _).filter _).filter _
  have hLn : L ≠ [] := by
    rw [hL]
    refine keepL_ne (keepL_ne (keepL_ne ?_))
    intro h
    exact hne (List.eq_nil_of_length_eq_zero (by simpa using h))
  obtain ⟨j, r, hj⟩ : ∃ j r, keepL (peersI (xs.map plainI)) (keepL (idsI (xs.map plainI)) (someL (xs.map plainI) L)) = j :: r := by
    rcases hq : keepL (peersI (xs.map plainI)) (keepL (idsI (xs.map plainI)) (someL (xs.map plainI) L)) with _ | ⟨j, r⟩
    · exact absurd hq (keepL_ne (keepL_ne (someL_ne hLn)))
    · exact ⟨j, r, rfl⟩
  have e1 : refBestI (xs.map plainI) = (j : Int) := by
    rw [refBestI, refBestL, List.length_map, ← hL, hj]
  rw [e1, bestI, if_neg hne, three_same hne, ← hL, stay_same hLt]
  exact last_same (fun i hi => hLt i (List.mem_filter.1 hi).1) (hLp.filter _) hj
end Go.Proofs.Ytngfabnkgpidjaa
