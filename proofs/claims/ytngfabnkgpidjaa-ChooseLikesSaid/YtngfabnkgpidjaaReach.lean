/- From the reading of an argument to this seat's words for memory, with the form's own reach: how many bytes a slice that is read takes. -/
import Derived.Test.YtngfabnkgpidjaaOpen
import Derived.SizedLaws
namespace Go.Proofs.Ytngfabnkgpidjaa
open Go.RowKit Go.WideShapes Go.ChangeShapes Go.Deep
set_option linter.unusedVariables false

def Light {H : Type} (P : Program) (T : TypeId) (d : DataW H) : Prop := ∀ n ∈ d.weights P T, n ≤ reachBytes
/-- whatever reads as a value of type T, and lies within the reach, reads by R and is in ρ -/
def OpensR (P : Program) (w : World) (T : TypeId) {α : Type} (R : Rep α) (ρ : α → Prop) : Prop :=
  ∀ {H : Type} (enc : TypeId × Value → H) (base : Nat) (spare : Nat → Bool) (held : Bool) (fuel : Nat) (cs : List Value) (x : DataW H × List MemPlace),
    DataW.trod enc P w base spare held fuel T cs = some x → Light P T x.1 → ∃ a, R w (Old w) cs a ∧ ρ a
theorem reach_num : reachBytes = 140737488351232 := rfl
theorem opensR_int {P : Program} {w : World} {T : TypeId} {k : IntKind} (hT : P.underlying T = some (.int k)) : OpensR P w T (intR k) (fun _ => True) := by
  intro H enc base spare held fuel cs x h _
  obtain ⟨n, rfl, rfl, hw⟩ := DataW.trod_int hT h
  exact ⟨n, ⟨rfl, wf_bounds hw⟩, trivial⟩
theorem opensR_bool {P : Program} {w : World} {T : TypeId} (hT : P.underlying T = some .bool) : OpensR P w T boolR (fun _ => True) := by
  intro H enc base spare held fuel cs x h _
  obtain ⟨n, rfl, rfl⟩ := DataW.trod_bool hT h
  exact ⟨n, rfl, trivial⟩
def listOk {α : Type} (bytes : Nat) (ρ : α → Prop) (xs : List α) : Prop := xs.length * bytes ≤ 140737488351232 ∧ ∀ x ∈ xs, ρ x
theorem weightsAll_in {H : Type} {P : Program} {e : TypeId} : ∀ {l : List (DataW H)} {d : DataW H}, d ∈ l → ∀ n ∈ d.weights P e, n ∈ DataW.weightsAll P e l
  | d' :: r, d, hd, n, hn => by
    simp only [DataW.weightsAll, List.mem_append]
    rcases List.mem_cons.1 hd with rfl | h
    · exact Or.inl hn
    · exact Or.inr (weightsAll_in h n hn)
theorem Light.elem {H : Type} {P : Program} {T E : TypeId} {elems spare : List (DataW H)} (h : Light P T (.slice elems spare)) (hT : P.underlying T = some (.slice E)) {d : DataW H} (hd : d ∈ elems) : Light P E d := fun n hn =>
  h n (by simp only [DataW.weights, hT, List.mem_cons, List.mem_append]; exact .inr (.inl (weightsAll_in hd n hn)))
theorem Light.len {H : Type} {P : Program} {T E : TypeId} {elems spare : List (DataW H)} (h : Light P T (.slice elems spare)) (hT : P.underlying T = some (.slice E)) : (elems.length + spare.length) * P.bytesOf E ≤ reachBytes :=
  h _ (by simp only [DataW.weights, hT, List.mem_cons, List.mem_append]; exact .inl trivial)
theorem Light.part {H : Type} {P : Program} {T : TypeId} {fs : Array Field} {parts : List (DataW H)} (h : Light P T (.agg parts)) (hT : P.underlying T = some (.struct fs)) {j : Nat} {f : Field} {d : DataW H} (hf : fs[j]? = some f) (hd : parts[j]? = some d) : Light P f.type d := fun n hn =>
  h n (by
    simp only [DataW.weights, hT]
    exact DataW.weights_mem_each (t := f.type) (by simp [hf]) hd n hn)
theorem opensR_slice {P : Program} {w : World} {T E : TypeId} {α : Type} {R : Rep α} {ρ : α → Prop} {size bytes : Nat} (ok : R.Ok size) (hs : 0 < size) (hT : P.underlying T = some (.slice E)) (hC : P.cellsOf E = size) (hB : P.bytesOf E = bytes) (hE : OpensR P w E R ρ) :
    OpensR P w T (listR size R) (listOk bytes ρ) := by
  intro H enc base spare held fuel cs x h hL
  rcases DataW.trod_slice hT h with ⟨rfl, rfl⟩ | ⟨a, len, cap, elems, rest, n, _, rfl, rfl, hb, hl, hm, hlen, hel, _, _⟩
  · exact ⟨[], listR.nil, by simp [listOk]⟩
  · have key : ∀ k, k ≤ len → ∃ ys : List α, ys.length = k ∧ (∀ (i : Nat) (y : α), ys[i]? = some y → ∃ cs', w.cells? base (a.add (i * size)) size = some cs' ∧ R w (Old w) cs' y) ∧ ∀ y ∈ ys, ρ y := by
      intro k
      induction k with
      | zero => exact fun _ => ⟨[], rfl, by simp, by simp⟩
      | succ k ih =>
        intro hk
        obtain ⟨ys, h1, h2, h3⟩ := ih (by omega)
        obtain ⟨e, he⟩ : ∃ e, elems[k]? = some e := ⟨_, List.getElem?_eq_getElem (by omega)⟩
        have h4 := hel k (by omega)
        rw [he, hC] at h4
        obtain ⟨cs', hc, ht⟩ := Option.bind_eq_some_iff.1 h4
        obtain ⟨y, hy, hρ⟩ := hE enc base spare held n cs' e ht (hL.elem hT (List.mem_map.2 ⟨e, List.mem_of_getElem? he, rfl⟩))
        refine ⟨ys ++ [y], by simp [h1], fun i z hz => ?_, fun z hz => ?_⟩
        · by_cases hik : i < k
          · exact h2 i z (by rwa [List.getElem?_append_left (by omega)] at hz)
          · have hie : i = k := by
              have := (List.getElem?_eq_some_iff.1 hz).1
              simp at this
              omega
            subst hie
            rw [List.getElem?_append_right (by omega)] at hz
            simp [h1] at hz
            subst hz
            exact ⟨cs', hc, hy⟩
        · rcases List.mem_append.1 hz with hz | hz
          · exact h3 z hz
          · simp at hz; subst hz; exact hρ
    obtain ⟨ys, h1, h2, h3⟩ := key len (Nat.le_refl _)
    have hw := hL.len hT
    rw [hB, reach_num] at hw
    refine ⟨ys, ⟨some a, cap, by rw [h1], by omega, hm, fun k y hy => ?_⟩, ?_, h3⟩
    · obtain ⟨cs', hc, hR⟩ := h2 k y hy
      obtain ⟨_, hcl, hat⟩ := World.cells?_some hc
      have hn : ∀ j, j < size → ∃ v, cs'[j]? = some v ∧ w.cell? ((a.add (k * size)).add j) = some v := fun j hj => by
        obtain ⟨v, hv⟩ : ∃ v, cs'[j]? = some v := ⟨_, List.getElem?_eq_getElem (by omega)⟩
        exact ⟨v, hv, (hat j hj).trans hv⟩
      have ha : a = ⟨a.block, a.off, none⟩ := by
        obtain ⟨y0, hy0⟩ : ∃ y, ys[0]? = some y := by
          have := (List.getElem?_eq_some_iff.1 hy).1
          exact ⟨_, List.getElem?_eq_getElem (by omega)⟩
        obtain ⟨cs0, hc0, _⟩ := h2 0 y0 hy0
        obtain ⟨_, hcl0, hat0⟩ := World.cells?_some hc0
        have h5 := hat0 0 hs
        rw [List.getElem?_eq_getElem (by omega)] at h5
        simp only [Nat.zero_mul, Addr.add, if_true] at h5
        have h6 : a.spot = none := by
          unfold World.cell? at h5
          split at h5
          · split at h5
            · cases h5
            · rename_i hsp
              simpa using hsp
          · cases h5
        cases a
        simp_all
      have hadd : ∀ i, a.add i = ⟨a.block, a.off + i, none⟩ := fun i => by
        rw [ha]
        exact Addr.add_mid _ _ _
      refine ⟨a.block, a.off, cs', by rw [← ha], ?_, hR, fun j v hv => ?_⟩
      · obtain ⟨v, _, hv⟩ := hn 0 hs
        rw [hadd, Addr.add_mid] at hv
        exact World.block_lt_of_cell? w ⟨a.block, _, none⟩ hv
      · have hj : j < size := by
          have := (List.getElem?_eq_some_iff.1 hv).1
          omega
        obtain ⟨v', hv', hc'⟩ := hn j hj
        rw [hv] at hv'
        cases hv'
        rw [hadd, Addr.add_mid] at hc'
        exact hc'
    · have h7 : ys.length ≤ (elems.map (·.1)).length := by rw [List.length_map]; omega
      have h8 : ys.length * bytes ≤ ((elems.map (·.1)).length + rest.length) * bytes := Nat.mul_le_mul_right _ (by omega)
      first | omega | (simp only [List.length_map] at *; omega)
end Go.Proofs.Ytngfabnkgpidjaa
