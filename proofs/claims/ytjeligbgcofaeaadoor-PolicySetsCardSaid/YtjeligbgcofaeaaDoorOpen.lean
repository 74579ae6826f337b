/- From the reading of an argument to this seat's words for memory. -/
import Derived.Test.YtjeligbgcofaeaaDoorLib
import Derived.Test.YtjeligbgcofaeaaDoorPost
import Derived.Deep.Slices
namespace Go.Proofs.YtjeligbgcofaeaaDoor
open Go.RowKit Go.WideShapes Go.ChangeShapes Go.Deep
set_option linter.unusedVariables false

/-- all that was there when the call began -/
def Old (w : World) : Nat → Prop := fun b => b < w.heap.size
theorem old_in (w : World) : InF (Old w) w := fun _ h => h
/-- whatever reads as a value of type T reads by R, and is no larger than its bulk says -/
def Opens (P : Program) (w : World) (T : TypeId) {α : Type} (R : Rep α) (μ : α → Nat) : Prop :=
  ∀ {H : Type} (enc : TypeId × Value → H) (base : Nat) (spare : Nat → Bool) (held : Bool) (fuel : Nat) (cs : List Value) (x : DataW H × List MemPlace),
    DataW.trod enc P w base spare held fuel T cs = some x → ∃ a, R w (Old w) cs a ∧ μ a ≤ Rows.uptoBulk x.1
theorem wf_bounds {k : IntKind} {n : Int} (h : (Lit.int k n).wf = true) : k.min ≤ n ∧ n ≤ k.max := by
  simpa [Lit.wf] using h
theorem opens_int {P : Program} {w : World} {T : TypeId} {k : IntKind} (hT : P.underlying T = some (.int k)) : Opens P w T (intR k) (fun _ => 1) := by
  intro H enc base spare held fuel cs x h
  obtain ⟨n, rfl, rfl, hw⟩ := DataW.trod_int hT h
  exact ⟨n, ⟨rfl, wf_bounds hw⟩, by simp [Rows.uptoBulk]⟩
theorem opens_bool {P : Program} {w : World} {T : TypeId} (hT : P.underlying T = some .bool) : Opens P w T boolR (fun _ => 1) := by
  intro H enc base spare held fuel cs x h
  obtain ⟨n, rfl, rfl⟩ := DataW.trod_bool hT h
  exact ⟨n, rfl, by simp [Rows.uptoBulk]⟩

def listMu {α : Type} (μ : α → Nat) (xs : List α) : Nat := (xs.map μ).sum + 1
theorem bulkAll_append {H : Type} (l r : List (DataW H)) : Rows.uptoBulkAll (l ++ r) = Rows.uptoBulkAll l + Rows.uptoBulkAll r := by
  induction l with
  | nil => simp [Rows.uptoBulkAll]
  | cons x l ih => simp only [List.cons_append, Rows.uptoBulkAll, ih]; omega
theorem opens_slice {P : Program} {w : World} {T E : TypeId} {α : Type} {R : Rep α} {μ : α → Nat} {size : Nat} (ok : R.Ok size) (hs : 0 < size) (hT : P.underlying T = some (.slice E)) (hC : P.cellsOf E = size) (hE : Opens P w E R μ) :
    Opens P w T (listR size R) (listMu μ) := by
  intro H enc base spare held fuel cs x h
  rcases DataW.trod_slice hT h with ⟨rfl, rfl⟩ | ⟨a, len, cap, elems, rest, n, _, rfl, rfl, hb, hl, hm, hlen, hel, _, _⟩
  · exact ⟨[], listR.nil, by simp [listMu, Rows.uptoBulk]⟩
  · have key : ∀ k, k ≤ len → ∃ ys : List α, ys.length = k ∧ (∀ (i : Nat) (y : α), ys[i]? = some y → ∃ cs', w.cells? base (a.add (i * size)) size = some cs' ∧ R w (Old w) cs' y) ∧
        (ys.map μ).sum ≤ Rows.uptoBulkAll ((elems.take k).map (·.1)) := by
      intro k
      induction k with
      | zero => exact fun _ => ⟨[], rfl, by simp, by simp⟩
      | succ k ih =>
        intro hk
        obtain ⟨ys, h1, h2, h3⟩ := ih (by omega)
        obtain ⟨e, he⟩ : ∃ e, elems[k]? = some e := ⟨_, List.getElem?_eq_getElem (by omega)⟩
        have h4 := hel k (by omega)
        rw [he, hC] at h4
        obtain ⟨cs', hc, ht⟩ := Option.bind_eq_some_iff.1 h4
        obtain ⟨y, hy, hmu⟩ := hE enc base spare held n cs' e ht
        have htk : elems.take (k + 1) = elems.take k ++ [e] := by
          have hk' : k < elems.length := (List.getElem?_eq_some_iff.1 he).1
          rw [List.take_succ_eq_append_getElem hk', (List.getElem?_eq_some_iff.1 he).2]
        refine ⟨ys ++ [y], by simp [h1], fun i z hz => ?_, ?_⟩
        · by_cases hik : i < k
          · exact h2 i z (by rwa [List.getElem?_append_left (by omega)] at hz)
          · have hie : i = k := by
              have := (List.getElem?_eq_some_iff.1 hz).1
              simp at this
              omega
            subst hie
            rw [List.getElem?_append_right (by omega)] at hz
            simp [h1] at hz
            subst hz
            exact ⟨cs', hc, hy⟩
        · rw [htk, List.map_append, List.map_append, bulkAll_append, List.sum_append]
          simp only [List.map_cons, List.map_nil, List.sum_cons, List.sum_nil, Rows.uptoBulkAll]
          omega
    obtain ⟨ys, h1, h2, h3⟩ := key len (Nat.le_refl _)
    rw [List.take_of_length_le (by omega)] at h3
    refine ⟨ys, ⟨some a, cap, by rw [h1], by omega, hm, fun k y hy => ?_⟩, by simp only [listMu, Rows.uptoBulk]; omega⟩
    obtain ⟨cs', hc, hR⟩ := h2 k y hy
    obtain ⟨_, hcl, hat⟩ := World.cells?_some hc
    have hn : ∀ j, j < size → ∃ v, cs'[j]? = some v ∧ w.cell? ((a.add (k * size)).add j) = some v := fun j hj => by
      obtain ⟨v, hv⟩ : ∃ v, cs'[j]? = some v := ⟨_, List.getElem?_eq_getElem (by omega)⟩
      exact ⟨v, hv, (hat j hj).trans hv⟩
    have ha : a = ⟨a.block, a.off, none⟩ := by
      obtain ⟨y0, hy0⟩ : ∃ y, ys[0]? = some y := by
        have := (List.getElem?_eq_some_iff.1 hy).1
        exact ⟨_, List.getElem?_eq_getElem (by omega)⟩
      obtain ⟨cs0, hc0, _⟩ := h2 0 y0 hy0
      obtain ⟨_, hcl0, hat0⟩ := World.cells?_some hc0
      have h5 := hat0 0 hs
      rw [List.getElem?_eq_getElem (by omega)] at h5
      simp only [Nat.zero_mul, Addr.add, if_true] at h5
      have h6 : a.spot = none := by
        unfold World.cell? at h5
        split at h5
        · split at h5
          · cases h5
          · rename_i hsp
            simpa using hsp
        · cases h5
      cases a
      simp_all
    have hadd : ∀ i, a.add i = ⟨a.block, a.off + i, none⟩ := fun i => by
      rw [ha]
      exact Addr.add_mid _ _ _
    refine ⟨a.block, a.off, cs', by rw [← ha], ?_, hR, fun j v hv => ?_⟩
    · obtain ⟨v, _, hv⟩ := hn 0 hs
      rw [hadd, Addr.add_mid] at hv
      exact World.block_lt_of_cell? w ⟨a.block, _, none⟩ hv
    · have hj : j < size := by
        have := (List.getElem?_eq_some_iff.1 hv).1
        omega
      obtain ⟨v', hv', hc'⟩ := hn j hj
      rw [hv] at hv'
      cases hv'
      rw [hadd, Addr.add_mid] at hc'
      exact hc'
end Go.Proofs.YtjeligbgcofaeaaDoor
