/- The reference's Best: what it reads behind its first loop, frozen. -/
import Derived.Test.YtngfabnkgpidjaaRefLists
namespace Go.Proofs.Ytngfabnkgpidjaa
open Go.RowKit
set_option linter.unusedVariables false

theorem keepL_ne {num : List Int} : ∀ {left : List Nat}, left ≠ [] → keepL num left ≠ [] := by
  intro left hne
  have key : ∀ l : List Nat, l ≠ [] → ∃ i ∈ l, ∀ k ∈ l, ¬ numAt num k < numAt num i := by
    intro l
    induction l with
    | nil => intro h; exact absurd rfl h
    | cons x r ih =>
      intro _
      by_cases hr : r = []
      · subst hr
        exact ⟨x, by simp, by simp⟩
      · obtain ⟨i, hi, hm⟩ := ih hr
        by_cases hx : numAt num x < numAt num i
        · refine ⟨x, by simp, fun k hk => ?_⟩
          rcases List.mem_cons.1 hk with rfl | hk
          · omega
          · have := hm k hk
            omega
        · refine ⟨i, by simp [hi], fun k hk => ?_⟩
          rcases List.mem_cons.1 hk with rfl | hk
          · exact hx
          · exact hm k hk
  obtain ⟨i, hi, hm⟩ := key left hne
  intro h0
  have : i ∈ keepL num left := List.mem_filter.2 ⟨hi, List.all_eq_true.2 fun k hk => by simpa using hm k hk⟩
  rw [h0] at this
  simp at this
theorem keepL_sub {num : List Int} {left : List Nat} {n : Nat} (h : ∀ i ∈ left, i < n) : ∀ i ∈ keepL num left, i < n := fun i hi => h i (List.mem_filter.1 hi).1
theorem keepL_len {num : List Int} {left : List Nat} : (keepL num left).length ≤ left.length := List.length_filter_le _ _

/-- a world in which a list of places and some lists of numbers lie frozen -/
structure RefSt (w0 w : World) (F : Nat → Prop) (n : Nat) (v : Value) (left : List Nat) (nums : List (Value × List Int)) : Prop where
  rowR : listR 1 (intR .i64) w F [v] (left.map placeI)
  numR : ∀ p ∈ nums, listR 1 (intR .i64) w F [p.1] p.2 ∧ p.2.length = n
  inF : InF F w
  below : Below w0.heap.size w0 w
  lt : ∀ i ∈ left, i < n
  ne : left ≠ []
  len : left.length ≤ n
theorem placeI_bounds {l : List Nat} {n : Nat} (h : ∀ i ∈ l, i < n) (hn : n ≤ 1048576) : ∀ x ∈ l.map placeI, IntKind.i64.min ≤ x ∧ x ≤ IntKind.i64.max := fun x hx => by
  obtain ⟨i, hi, rfl⟩ := List.mem_map.1 hx
  have := h i hi
  exact i64_mk (by simp only [placeI]; omega) (by simp only [placeI]; omega)
theorem placeV_map (l : List Nat) : l.map placeV = (l.map placeI).map (Value.int .i64) := by simp [placeV, placeI]

/-- a row that a callee has made, frozen -/
theorem RefSt.next {w0 w w' : World} {F : Nat → Prop} {n : Nat} {v v' : Value} {left left' : List Nat} {nums : List (Value × List Int)} (h : RefSt w0 w F n v left nums) (hn : n ≤ 1048576) (ho : w'.ownsRow w.heap.size 3 1 v' left'.length (left'.map placeV)) (hB : Below w.heap.size w w')
    (hlt : ∀ i ∈ left', i < n) (hne : left' ≠ []) (hlen : left'.length ≤ n) : RefSt w0 w' (fun b => F b ∨ v'.ownBlock = some b) n v' left' nums := by
  rw [placeV_map] at ho
  refine ⟨ints_freeze ho (placeI_bounds hlt hn), fun p hp => ⟨(listR_ok (intR_ok _)).keep (h.numR p hp).1 (fun b hb => hB.block b (h.inF b hb)) fun _ hb => .inl hb, (h.numR p hp).2⟩, fun b hb => ?_, below_step h.below hB, hlt, hne, hlen⟩
  rcases hb with hb | hb
  · exact Nat.lt_of_lt_of_le (h.inF b hb) hB.size
  · exact (ho.lt b hb).2

/-- a call of keep -/
theorem keep_step (w0 w : World) (F : Nat → Prop) (n : Nat) (v u : Value) (left : List Nat) (num : List Int) (nums : List (Value × List Int)) (h : RefSt w0 w F n v left nums) (hn : n ≤ 1048576) (hu : (u, num) ∈ nums) :
    Calls Try.prog 29 #[v, u] w fun e w' => ∃ v' F', e = .returned v' ∧ RefSt w0 w' F' n v' (keepL num left) nums := by
  obtain ⟨A, c, rfl⟩ := h.rowR.val
  obtain ⟨h1, h2⟩ := h.numR _ hu
  dsimp only at h1 h2
  obtain ⟨B, d, rfl⟩ := h1.val
  refine (ref_keep w F A B _ c _ d left num h.rowR h1 h.inF ?_ ?_).mono ?_
  · rw [List.length_map]; exact Nat.le_trans h.len hn
  · intro i hi; rw [h2]; exact h.lt i hi
  rintro e w' ⟨v', rfl, ho, hB⟩
  exact ⟨v', _, rfl, h.next hn ho hB (keepL_sub h.lt) (keepL_ne h.ne) (Nat.le_trans keepL_len h.len)⟩

/-- what the first loop has made, frozen -/
def sixF (vs : List Value) : Nat → Prop := fun b => ∃ (i : Nat) (v : Value), vs[i]? = some v ∧ v.ownBlock = some b
theorem Owns.freeze {w : World} {base : Nat} {e : TypeId} {vs : List Value} {xss : List (List Value)} (h : Owns w base e vs xss) (i : Nat) {v : Value} {xs : List Int} (hv : vs[i]? = some v) (hx : xss[i]? = some (xs.map (Value.int .i64))) (hb : ∀ x ∈ xs, IntKind.i64.min ≤ x ∧ x ≤ IntKind.i64.max) :
    listR 1 (intR .i64) w (sixF vs) [v] xs := by
  have h1 := ints_freeze (F := fun _ => False) (h.own i v _ hv hx) hb
  refine (listR_ok (intR_ok _)).keep h1 (fun _ _ => rfl) fun b hb => ?_
  rcases hb with hb | hb
  · exact hb.elim
  · exact ⟨i, v, hv, hb⟩
theorem Owns.inF {w : World} {base : Nat} {e : TypeId} {vs : List Value} {xss : List (List Value)} (h : Owns w base e vs xss) : InF (sixF vs) w := fun b hb => by
  obtain ⟨i, v, hv, hvb⟩ := hb
  have hi := (List.getElem?_eq_some_iff.1 hv).1
  obtain ⟨xs, hx⟩ : ∃ xs, xss[i]? = some xs := ⟨_, List.getElem?_eq_getElem (by rw [← h.len]; exact hi)⟩
  exact ((h.own i v xs hv hx).lt b hvb).2
def likesI (rs : List RRoute) : List Int := rs.map fun r => 4294967296 - r.loc
def hopsI (rs : List RRoute) : List Int := rs.map (·.hops)
def originsI (rs : List RRoute) : List Int := rs.map (·.origin)
def idsI (rs : List RRoute) : List Int := rs.map (·.id)
def peersI (rs : List RRoute) : List Int := rs.map (·.peer)
def rFirst (rs : List RRoute) (i : Nat) : Int := match rs[i]? with | some r => r.first | none => 0
def rMed (rs : List RRoute) (i : Nat) : Int := match rs[i]? with | some r => r.med | none => 0
def someP (rs : List RRoute) (left : List Nat) (i : Nat) : Bool := left.all fun k => !(rFirst rs k == rFirst rs i && decide (rMed rs k < rMed rs i))
def someL (rs : List RRoute) (left : List Nat) : List Nat := left.filter (someP rs left)
def refBestL (rs : List RRoute) : List Nat :=
  keepL (peersI rs) (keepL (idsI rs) (someL rs (keepL (originsI rs) (keepL (hopsI rs) (keepL (likesI rs) (List.range rs.length))))))
def refBestI (rs : List RRoute) : Int := match refBestL rs with | [] => -1 | i :: _ => (i : Int)

theorem six_start {w0 w : World} {rs : List RRoute} {n : Nat} {v3 v4 v5 v6 v7 v8 : Value} (h : Owns w w0.heap.size 3 [v3, v4, v5, v6, v7, v8] [placeVs n, likesV rs, hopsV rs, originsV rs, idsV rs, peersV rs]) (hn : n = rs.length) (hm : n ≤ 1048576) (h0 : n ≠ 0) (hf : ∀ r ∈ rs, r.Fits) (hB : Below w0.heap.size w0 w) :
    RefSt w0 w (sixF [v3, v4, v5, v6, v7, v8]) n v3 (List.range n) [(v4, likesI rs), (v5, hopsI rs), (v6, originsI rs), (v7, idsI rs), (v8, peersI rs)] := by
  subst hn
  have hlt : ∀ i ∈ List.range rs.length, i < rs.length := fun i hi => List.mem_range.1 hi
  refine ⟨h.freeze 0 rfl (by simp [placeVs, placeV, placeI]) (placeI_bounds hlt hm), fun p hp => ?_, h.inF, hB, hlt, by simpa using h0, by simp⟩
  simp only [List.mem_cons, List.not_mem_nil, or_false] at hp
  rcases hp with rfl | rfl | rfl | rfl | rfl
  · exact ⟨h.freeze 1 rfl (by simp [likesV, likesI]) (fun x hx => by obtain ⟨r, hr, rfl⟩ := List.mem_map.1 hx; have := (hf r hr).loc; exact i64_mk (by omega) (by omega)), by simp [likesI]⟩
  · exact ⟨h.freeze 2 rfl (by simp [hopsV, hopsI]) (fun x hx => by obtain ⟨r, hr, rfl⟩ := List.mem_map.1 hx; have := (hf r hr).hops; exact i64_mk this.1 this.2), by simp [hopsI]⟩
  · exact ⟨h.freeze 3 rfl (by simp [originsV, originsI]) (fun x hx => by obtain ⟨r, hr, rfl⟩ := List.mem_map.1 hx; have := (hf r hr).origin; exact i64_mk this.1 this.2), by simp [originsI]⟩
  · exact ⟨h.freeze 4 rfl (by simp [idsV, idsI]) (fun x hx => by obtain ⟨r, hr, rfl⟩ := List.mem_map.1 hx; have := (hf r hr).id; exact i64_mk (by omega) (by omega)), by simp [idsI]⟩
  · exact ⟨h.freeze 5 rfl (by simp [peersV, peersI]) (fun x hx => by obtain ⟨r, hr, rfl⟩ := List.mem_map.1 hx; have := (hf r hr).peer; exact i64_mk this.1 this.2), by simp [peersI]⟩
theorem someL_ne {rs : List RRoute} {left : List Nat} (hne : left ≠ []) : someL rs left ≠ [] := by
  have key : ∀ l : List Nat, l ≠ [] → ∃ i ∈ l, ∀ k ∈ l, ¬ rMed rs k < rMed rs i := by
    intro l
    induction l with
    | nil => intro h; exact absurd rfl h
    | cons x r ih =>
      intro _
      by_cases hr : r = []
      · subst hr
        exact ⟨x, by simp, by simp⟩
      · obtain ⟨i, hi, hm⟩ := ih hr
        by_cases hx : rMed rs x < rMed rs i
        · refine ⟨x, by simp, fun k hk => ?_⟩
          rcases List.mem_cons.1 hk with rfl | hk
          · omega
          · have := hm k hk
            omega
        · refine ⟨i, by simp [hi], fun k hk => ?_⟩
          rcases List.mem_cons.1 hk with rfl | hk
          · exact hx
          · exact hm k hk
  obtain ⟨i, hi, hm⟩ := key left hne
  intro h0
  have : i ∈ someL rs left := List.mem_filter.2 ⟨hi, List.all_eq_true.2 fun k hk => by
    have h1 : decide (rMed rs k < rMed rs i) = false := decide_eq_false (hm k hk)
    simp [h1]⟩
  rw [h0] at this
  simp at this
end Go.Proofs.Ytngfabnkgpidjaa
