/- A map from strings to ints of the call's own, as a function; its look-ups and its store as equations of runs. -/
import Derived.Test.YthiodgnklfbmjaaLib
import Derived.Maps.OwnSet
import Derived.Maps.OwnOps
import Derived.StringKeys
import Derived.Laws.BytesArg
namespace Go.Proofs.Ythiodgnklfbmjaa
open Go.RowKit Go.Maps
variable {P : Program}

/-- block b is a map of at most n entries that reads as f -/
def SMap (P : Program) (k e : TypeId) (w : World) (b n : Nat) (f : List UInt8 → Option Int) : Prop :=
  ∃ D : DataW Unit, w.ownsMap P k (plainElem P e) b n D ∧ IsMap D ∧ (∀ x, Maps.has D (.string x) = (f x).isSome) ∧ (∀ x v, f x = some v → (∀ z, D.atKey (.string x) z = .lit (.int .i64 v)))

theorem SMap.made (k e : TypeId) (w : World) : SMap P k e (w.alloc (.map #[] 0)) w.heap.size 0 fun _ => none :=
  ⟨.map [], World.ownsMap_made _ _ _ _, isMap_empty, fun x => rfl, fun x v h => by cases h⟩
theorem SMap.lt {k e : TypeId} {w : World} {b n : Nat} {f : List UInt8 → Option Int} (h : SMap P k e w b n f) : b < w.heap.size := by
  obtain ⟨D, hD, _⟩ := h
  exact hD.lt
theorem SMap.block {k e : TypeId} {w w' : World} {b n : Nat} {f : List UInt8 → Option Int} (h : SMap P k e w b n f) (hb : w'.heap[b]? = w.heap[b]?) : SMap P k e w' b n f := by
  obtain ⟨D, ⟨es, clock, h1, h2⟩, h3⟩ := h
  exact ⟨D, ⟨es, clock, hb.trans h1, h2⟩, h3⟩
theorem SMap.below {k e : TypeId} {w w' : World} {b n : Nat} {f : List UInt8 → Option Int} (h : SMap P k e w b n f) (hb : Below w.heap.size w w') : SMap P k e w' b n f := h.block (hb.block b h.lt)

def putS (f : List UInt8 → Option Int) (x : List UInt8) (v : Int) : List UInt8 → Option Int := fun y => if y = x then some v else f y
theorem wf_i64 {x : Int} (h : IntKind.i64.min ≤ x ∧ x ≤ IntKind.i64.max) : (Lit.int .i64 x).wf = true := by
  have := i64_bounds h
  simp [Lit.wf, IntKind.min, IntKind.max, IntKind.signed, IntKind.bits]
  omega

section
variable {k e t : TypeId} {w : World} {b n : Nat} {f : List UInt8 → Option Int} (hk : P.underlying k = some .string) (he : P.underlying e = some (.int .i64)) (ht : P.underlying t = some (.map k e)) (hz : ∀ w, (zeroValue e).run P w = .ok (.int .i64 0) w)
include hk he ht hz
/-- v, ok := m[x] -/
theorem SMap.look_ok (h : SMap P k e w b n f) {s : ByteArray} (hx : s.size ≤ maxLen) :
    (Instr.lookup t (.map (some b)) (.string s) true).run P w = .ok (.tuple #[.int .i64 ((f s.data.toList).getD 0), .bool (f s.data.toList).isSome]) w := by
  obtain ⟨D, hD, hm, h1, h2⟩ := h
  obtain ⟨v, ps, hrun, hv⟩ := hD.look_ok (string_keyed hk) ht (hz w) (plainElem_int he (a := 0) (by decide)) (WideMaps.keyOf_string_mk hk hx)
  obtain ⟨c, rfl, hc, _⟩ := plainElem_int_inv he hv
  have hc' : D.atKey (.string s.data.toList) (.lit (.int .i64 0)) = .lit (.int .i64 c) := congrArg Prod.fst hc
  rw [hrun, h1]
  cases hf : f s.data.toList with
  | some u =>
    rw [h2 _ u hf] at hc'
    injection hc' with hc'
    injection hc' with _ hc'
    rw [hc']
    rfl
  | none =>
    have h3 := Maps.atKey_of_not_has (D := D) (k := .string s.data.toList) (by rw [h1, hf]; rfl) (.lit (.int .i64 0))
    rw [h3] at hc'
    injection hc' with hc'
    injection hc' with _ hc'
    rw [← hc']
    rfl
/-- v := m[x] -/
theorem SMap.look (h : SMap P k e w b n f) {s : ByteArray} (hx : s.size ≤ maxLen) :
    (Instr.lookup t (.map (some b)) (.string s) false).run P w = .ok (.int .i64 ((f s.data.toList).getD 0)) w := by
  obtain ⟨D, hD, hm, h1, h2⟩ := h
  obtain ⟨c, hrun, hc', _⟩ := hD.lookup_int (string_keyed hk) ht he (hz w) (WideMaps.keyOf_string_mk hk hx)
  rw [hrun]
  cases hf : f s.data.toList with
  | some u =>
    rw [h2 _ u hf] at hc'
    injection hc' with hc'
    injection hc' with _ hc'
    rw [hc']
    rfl
  | none =>
    have h3 := Maps.atKey_of_not_has (D := D) (k := .string s.data.toList) (by rw [h1, hf]; rfl) (.lit (.int .i64 0))
    rw [h3] at hc'
    injection hc' with hc'
    injection hc' with _ hc'
    rw [← hc']
    rfl
omit hz in
/-- m[x] = v -/
theorem SMap.put (h : SMap P k e w b n f) {s : ByteArray} {v : Int} (hx : s.size ≤ maxLen) (hv : IntKind.i64.min ≤ v ∧ v ≤ IntKind.i64.max) (hn : n < maxLen) :
    ∃ w', (Instr.mapUpdate t (.map (some b)) (.string s) (.int .i64 v)).run P w = .ok () w' ∧ SMap P k e w' b (n + 1) (putS f s.data.toList v) ∧ w.grownBy w' (some b) := by
  obtain ⟨D, hD, hm, h1, h2⟩ := h
  obtain ⟨w', hrun, hown, hg⟩ := hD.update (string_keyed hk) ht hn (WideMaps.keyOf_string_mk hk hx) (plainElem_int he (wf_i64 hv))
  refine ⟨w', hrun, ⟨_, hown, hm.put _ _, fun y => ?_, fun y u hu z => ?_⟩, hg⟩
  · unfold putS
    by_cases hy : y = s.data.toList
    · subst hy
      rw [has_put_same hm (show WideAt.IsKeyLit (.string s.data.toList) from trivial), if_pos rfl]
      rfl
    · rw [has_put_other (by intro he; injection he with he; exact hy he), if_neg hy, h1]
  · unfold putS at hu
    by_cases hy : y = s.data.toList
    · subst hy
      rw [if_pos rfl] at hu
      cases hu
      exact atKey_put_same hm (show WideAt.IsKeyLit (.string s.data.toList) from trivial) _ _
    · rw [if_neg hy] at hu
      rw [atKey_put_other (by intro he; injection he with he; exact hy he)]
      exact h2 y u hu z
end
end Go.Proofs.Ythiodgnklfbmjaa
