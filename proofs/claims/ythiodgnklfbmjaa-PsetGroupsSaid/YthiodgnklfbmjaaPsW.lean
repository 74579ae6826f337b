/- Plain: what the groups are. -/
import Derived.Test.YthiodgnklfbmjaaPsT
namespace Go.Proofs.Ythiodgnklfbmjaa
open Go.RowKit
set_option linter.unusedVariables false
set_option linter.unusedSimpArgs false

def headsG (st : GSt) : List (Option Pfx) := st.map fun x => x.2.head?
def ltO (a b : Option Pfx) : Prop := ∀ p q, a = some p → b = some q → cmpP p q < 0
structure GInv (bys : List (List Pfx)) (dn : List Pfx) (st : GSt) : Prop where
  each : ∀ x ∈ st, x.2 ≠ [] ∧ sortedP x.2 ∧ ∀ p ∈ x.2, p ∈ dn ∧ keyP bys p = x.1
  keys : (keysG st).Nodup
  heads : (headsG st).Pairwise ltO
  sum : (st.map (·.2.length)).sum = dn.length
theorem stepG_old {bys : List (List Pfx)} {st : GSt} {p : Pfx} (h : idxG st (keyP bys p) < st.length) : ∃ pre g post, st = pre ++ (keyP bys p, g) :: post ∧ stepG bys st p = pre ++ (keyP bys p, g ++ [p]) :: post := by
  obtain ⟨i, hi⟩ : ∃ i, i = idxG st (keyP bys p) := ⟨_, rfl⟩
  rw [← hi] at h
  have hk : st[i].1 = keyP bys p := by
    have h1 : (keysG st).findIdx (· == keyP bys p) < (keysG st).length := by
      have : (keysG st).length = st.length := by simp [keysG]
      unfold idxG idxK at hi
      omega
    have h2 := List.findIdx_getElem (xs := keysG st) (p := (· == keyP bys p)) (w := h1)
    have h3 : (keysG st).findIdx (· == keyP bys p) = i := hi.symm
    simp only [h3] at h2
    simpa [keysG] using h2
  have hs : st = st.take i ++ st[i] :: st.drop (i + 1) := by rw [← List.drop_eq_getElem_cons h, List.take_append_drop]
  refine ⟨st.take i, st[i].2, st.drop (i + 1), ?_, ?_⟩
  · rw [← hk]
    exact hs
  · unfold stepG baseG
    rw [if_pos (by rw [← hi]; exact h), ← hi, List.modify_eq_take_cons_drop h, hk]
theorem stepG_new {bys : List (List Pfx)} {st : GSt} {p : Pfx} (h : ¬ idxG st (keyP bys p) < st.length) : stepG bys st p = st ++ [(keyP bys p, [p])] ∧ keyP bys p ∉ keysG st := by
  have h1 := idxG_new h
  refine ⟨?_, fun hm => ?_⟩
  · unfold stepG baseG
    rw [if_neg h, h1, List.modify_eq_take_cons_drop (by simp)]
    simp
  · have : (keysG st).findIdx (· == keyP bys p) < (keysG st).length := List.findIdx_lt_length_of_exists ⟨_, hm, by simp⟩
    have h2 : (keysG st).length = st.length := by simp [keysG]
    exact h (by unfold idxG idxK; omega)
theorem GInv.step {bys : List (List Pfx)} {dn : List Pfx} {st : GSt} {p : Pfx} (h : GInv bys dn st) (hp : ∀ q ∈ dn, cmpP q p < 0) : GInv bys (dn ++ [p]) (stepG bys st p) := by
  by_cases hi : idxG st (keyP bys p) < st.length
  · obtain ⟨pre, g, post, rfl, e⟩ := stepG_old hi
    rw [e]
    have hg := h.each (keyP bys p, g) (by simp)
    refine ⟨fun x hx => ?_, ?_, ?_, ?_⟩
    · rcases List.mem_append.1 hx with hx | hx
      · have := h.each x (by simp [hx])
        exact ⟨this.1, this.2.1, fun q hq => ⟨by simp [(this.2.2 q hq).1], (this.2.2 q hq).2⟩⟩
      · rcases List.mem_cons.1 hx with rfl | hx
        · refine ⟨by simp, List.pairwise_append.2 ⟨hg.2.1, by simp, fun a ha b hb => ?_⟩, fun q hq => ?_⟩
          · simp at hb
            subst hb
            exact hp a (hg.2.2 a ha).1
          · rcases List.mem_append.1 hq with hq | hq
            · exact ⟨by simp [(hg.2.2 q hq).1], (hg.2.2 q hq).2⟩
            · simp at hq
              subst hq
              exact ⟨by simp, rfl⟩
        · have := h.each x (by simp [hx])
          exact ⟨this.1, this.2.1, fun q hq => ⟨by simp [(this.2.2 q hq).1], (this.2.2 q hq).2⟩⟩
    · have := h.keys
      simpa [keysG] using this
    · have h1 := h.heads
      have h2 : headsG (pre ++ (keyP bys p, g ++ [p]) :: post) = headsG (pre ++ (keyP bys p, g) :: post) := by
        have h3 : (g ++ [p]).head? = g.head? := by
          cases g with
          | nil => exact absurd rfl hg.1
          | cons a b => rfl
        simp [headsG, h3]
      rw [h2]
      exact h1
    · have := h.sum
      simp only [List.map_append, List.map_cons, List.sum_append, List.sum_cons, List.length_append, List.length_singleton] at this ⊢
      omega
  · obtain ⟨e, hn⟩ := stepG_new hi
    rw [e]
    refine ⟨fun x hx => ?_, ?_, ?_, ?_⟩
    · rcases List.mem_append.1 hx with hx | hx
      · have := h.each x hx
        exact ⟨this.1, this.2.1, fun q hq => ⟨by simp [(this.2.2 q hq).1], (this.2.2 q hq).2⟩⟩
      · simp at hx
        subst hx
        exact ⟨by simp, by simp [sortedP], fun q hq => by simp at hq; subst hq; exact ⟨by simp, rfl⟩⟩
    · have h1 : keysG (st ++ [(keyP bys p, [p])]) = keysG st ++ [keyP bys p] := by simp [keysG]
      rw [h1]
      refine List.nodup_append.2 ⟨h.keys, by simp, fun a ha b hb => ?_⟩
      simp at hb
      subst hb
      exact fun e => hn (e ▸ ha)
    · have h1 : headsG (st ++ [(keyP bys p, [p])]) = headsG st ++ [some p] := by simp [headsG]
      rw [h1]
      refine List.pairwise_append.2 ⟨h.heads, by simp, fun a ha b hb => ?_⟩
      simp at hb
      subst hb
      intro x y hx hy
      cases hy
      obtain ⟨u, hu, rfl⟩ := List.mem_map.1 ha
      have h2 := h.each u hu
      exact hp x (h2.2.2 x (List.mem_of_mem_head? (by rw [hx]; rfl))).1
    · have := h.sum
      simp only [List.map_append, List.map_cons, List.map_nil, List.sum_append, List.sum_cons, List.sum_nil, List.length_append, List.length_singleton] at this ⊢
      omega
theorem groupSt_inv {bys : List (List Pfx)} : ∀ {rest dn : List Pfx} {st : GSt}, GInv bys dn st → sortedP (dn ++ rest) → GInv bys (dn ++ rest) (rest.foldl (stepG bys) st)
  | [], dn, st, h, hs => by simpa using h
  | p :: rest, dn, st, h, hs => by
    have h1 : sortedP ((dn ++ [p]) ++ rest) := by simpa using hs
    have h2 := List.pairwise_append.1 hs
    have := groupSt_inv (rest := rest) (h.step fun q hq => h2.2.2 q hq p (by simp)) h1
    simpa using this
def sumL (gs : List (List Pfx)) : Nat := (gs.map List.length).sum
structure Parted (bys : List (List Pfx)) (all : List Pfx) (gs : List (List Pfx)) : Prop where
  each : ∀ g ∈ gs, g ≠ [] ∧ sortedP g ∧ ∀ p ∈ g, p ∈ all
  same : ∀ g ∈ gs, ∀ p ∈ g, ∀ q ∈ g, ∀ s ∈ bys, memP s p = memP s q
  apart : ∀ (i j : Nat) (g h : List Pfx), i ≠ j → gs[i]? = some g → gs[j]? = some h → ∀ p ∈ g, ∀ q ∈ h, (bys.any fun s => memP s q != memP s p) = true
  order : ∀ (i j : Nat) (g h : List Pfx) (p q : Pfx), i < j → gs[i]? = some g → gs[j]? = some h → g[0]? = some p → h[0]? = some q → cmpP p q < 0
  sum : sumL gs = all.length
theorem keyP_same {bys : List (List Pfx)} {p q : Pfx} (h : keyP bys p = keyP bys q) : ∀ s ∈ bys, memP s p = memP s q := by
  unfold keyP at h
  intro s hs
  exact List.map_inj_left.1 h s hs
theorem keyP_apart {bys : List (List Pfx)} {p q : Pfx} (h : keyP bys p ≠ keyP bys q) : (bys.any fun s => memP s q != memP s p) = true := by
  cases ha : bys.any fun s => memP s q != memP s p
  · refine absurd ?_ h
    unfold keyP
    refine List.map_congr_left fun s hs => ?_
    have := List.any_eq_false.1 ha s hs
    simp at this
    exact this.symm
  · rfl
theorem parted {bys : List (List Pfx)} {all : List Pfx} (hs : sortedP all) : Parted bys all (groupL bys all) := by
  have h0 : GInv bys [] ([] : GSt) := ⟨by simp, by simp [keysG], by simp [headsG], rfl⟩
  have h : GInv bys all (groupSt bys all) := by
    have := groupSt_inv (rest := all) h0 (by simpa using hs)
    simpa [groupSt] using this
  have key : ∀ g ∈ groupL bys all, ∃ x ∈ groupSt bys all, x.2 = g := fun g hg => by
    obtain ⟨x, hx, e⟩ := List.mem_map.1 hg
    exact ⟨x, hx, e⟩
  have at_ : ∀ (i : Nat) (g : List Pfx), (groupL bys all)[i]? = some g → ∃ x, (groupSt bys all)[i]? = some x ∧ x.2 = g := fun i g hg => by
    unfold groupL groupsG at hg
    rw [List.getElem?_map] at hg
    cases hx : (groupSt bys all)[i]? with
    | none => rw [hx] at hg; cases hg
    | some x => rw [hx] at hg; exact ⟨x, rfl, by simpa using hg⟩
  refine ⟨fun g hg => ?_, fun g hg p hp q hq => ?_, fun i j g h' hij hi hj p hp q hq => ?_, fun i j g h' p q hij hi hj hp hq => ?_, ?_⟩
  · obtain ⟨x, hx, rfl⟩ := key g hg
    have := h.each x hx
    exact ⟨this.1, this.2.1, fun p hp => (this.2.2 p hp).1⟩
  · obtain ⟨x, hx, rfl⟩ := key g hg
    have := h.each x hx
    exact keyP_same ((this.2.2 p hp).2.trans (this.2.2 q hq).2.symm)
  · obtain ⟨x, hx, rfl⟩ := at_ i g hi
    obtain ⟨y, hy, rfl⟩ := at_ j h' hj
    have hx' := (h.each x (List.mem_of_getElem? hx)).2.2 p hp
    have hy' := (h.each y (List.mem_of_getElem? hy)).2.2 q hq
    refine keyP_apart ?_
    rw [hx'.2, hy'.2]
    intro e
    have hn := h.keys
    unfold keysG at hn
    obtain ⟨h1, h2⟩ := List.getElem?_eq_some_iff.1 hx
    obtain ⟨h3, h4⟩ := List.getElem?_eq_some_iff.1 hy
    have h5 := List.pairwise_iff_getElem.1 hn
    rcases Nat.lt_or_gt_of_ne hij with hlt | hgt
    · exact h5 i j (by simpa using h1) (by simpa using h3) hlt (by simp [h2, h4, e])
    · exact h5 j i (by simpa using h3) (by simpa using h1) hgt (by simp [h2, h4, e])
  · obtain ⟨x, hx, rfl⟩ := at_ i g hi
    obtain ⟨y, hy, rfl⟩ := at_ j h' hj
    obtain ⟨h1, h2⟩ := List.getElem?_eq_some_iff.1 hx
    obtain ⟨h3, h4⟩ := List.getElem?_eq_some_iff.1 hy
    have h5 := List.pairwise_iff_getElem.1 h.heads i j (by simpa [headsG] using h1) (by simpa [headsG] using h3) hij
    refine h5 p q ?_ ?_
    · simp only [headsG, List.getElem_map, h2]
      rw [List.head?_eq_getElem?]
      exact hp
    · simp only [headsG, List.getElem_map, h4]
      rw [List.head?_eq_getElem?]
      exact hq
  · have := h.sum
    unfold sumL groupL groupsG
    rw [List.map_map]
    exact this
theorem sumL_snoc {gs : List (List Pfx)} {k : Nat} {g : List Pfx} (h : gs[k]? = some g) : sumL (gs.take (k + 1)) = sumL (gs.take k) + g.length := by
  unfold sumL
  rw [take_snoc h]
  simp
theorem sumL_le (gs : List (List Pfx)) (k : Nat) : sumL (gs.take k) ≤ sumL gs := by
  unfold sumL
  have h : gs = gs.take k ++ gs.drop k := (List.take_append_drop k gs).symm
  have h2 : (gs.map List.length).sum = ((gs.take k).map List.length).sum + ((gs.drop k).map List.length).sum := by
    rw [← List.sum_append, ← List.map_append, List.take_append_drop]
  omega
def unlikeB (bys : List (List Pfx)) (q p : Pfx) : Bool := bys.any fun s => memP s q != memP s p
theorem unlikeB_snoc {bys : List (List Pfx)} {k : Nat} {s : List Pfx} (q p : Pfx) (h : bys[k]? = some s) : unlikeB (bys.take (k + 1)) q p = (unlikeB (bys.take k) q p || (memP s q != memP s p)) := by
  unfold unlikeB
  rw [take_snoc h, List.any_append]
  simp
theorem set_at {w : World} {F : Nat → Prop} {A : Option Addr} {n c : Nat} {xss : List (List Pfx)} (h : listR 1 (listR 2 pfxR) w F [.slice A n c] xss) {k : Nat} (hk : k < n) :
    ∃ s A' c' b off, xss[k]? = some s ∧ A = some ⟨b, off, none⟩ ∧ F b ∧ listR 2 pfxR w F [.slice A' s.length c'] s ∧ w.cell? ⟨b, off + k, none⟩ = some (.slice A' s.length c') := by
  obtain ⟨x, hx⟩ : ∃ x, xss[k]? = some x := ⟨_, List.getElem?_eq_getElem (by rw [← h.len.1]; exact hk)⟩
  obtain ⟨b, off, cs, hA, hFb, hr, hc⟩ := h.at_ hx
  obtain ⟨A', c', rfl⟩ := hr.form
  exact ⟨x, A', c', b, off, hx, hA, hFb, hr, by simpa using hc 0 _ rfl⟩
end Go.Proofs.Ythiodgnklfbmjaa
