/- A map from ints to ints of the call's own, as a function; its look-ups and its store as equations of runs. -/
import Derived.Test.YtngfabnkgpidjaaLib
import Derived.Maps.OwnSet
import Derived.Maps.OwnOps
namespace Go.Proofs.Ytngfabnkgpidjaa
open Go.RowKit Go.Maps
variable {P : Program}

/-- block b is a map of at most n entries that reads as f -/
def IMap (P : Program) (k e : TypeId) (w : World) (b n : Nat) (f : Int → Option Int) : Prop :=
  ∃ D : DataW Unit, w.ownsMap P k (plainElem P e) b n D ∧ IsMap D ∧ (∀ x, Maps.has D (.int .i64 x) = (f x).isSome) ∧ (∀ x v, f x = some v → (∀ z, D.atKey (.int .i64 x) z = .lit (.int .i64 v)))

theorem IMap.made (k e : TypeId) (w : World) : IMap P k e (w.alloc (.map #[] 0)) w.heap.size 0 fun _ => none :=
  ⟨.map [], World.ownsMap_made _ _ _ _, isMap_empty, fun x => rfl, fun x v h => by cases h⟩
theorem IMap.lt {k e : TypeId} {w : World} {b n : Nat} {f : Int → Option Int} (h : IMap P k e w b n f) : b < w.heap.size := by
  obtain ⟨D, hD, _⟩ := h
  exact hD.lt
theorem IMap.block {k e : TypeId} {w w' : World} {b n : Nat} {f : Int → Option Int} (h : IMap P k e w b n f) (hb : w'.heap[b]? = w.heap[b]?) : IMap P k e w' b n f := by
  obtain ⟨D, ⟨es, clock, h1, h2⟩, h3⟩ := h
  exact ⟨D, ⟨es, clock, hb.trans h1, h2⟩, h3⟩
theorem IMap.below {k e : TypeId} {w w' : World} {b n : Nat} {f : Int → Option Int} (h : IMap P k e w b n f) (hb : Below w.heap.size w w') : IMap P k e w' b n f := h.block (hb.block b h.lt)

def putF (f : Int → Option Int) (x v : Int) : Int → Option Int := fun y => if y = x then some v else f y
theorem wf_i64 {x : Int} (h : IntKind.i64.min ≤ x ∧ x ≤ IntKind.i64.max) : (Lit.int .i64 x).wf = true := by
  have := i64_bounds h
  simp [Lit.wf, IntKind.min, IntKind.max, IntKind.signed, IntKind.bits]
  omega

section
variable {k e t : TypeId} {w : World} {b n : Nat} {f : Int → Option Int} (hk : P.underlying k = some (.int .i64)) (he : P.underlying e = some (.int .i64)) (ht : P.underlying t = some (.map k e)) (hz : ∀ w, (zeroValue e).run P w = .ok (.int .i64 0) w)
include hk he ht hz
/-- v, ok := m[x] -/
theorem IMap.look_ok (h : IMap P k e w b n f) {x : Int} (hx : IntKind.i64.min ≤ x ∧ x ≤ IntKind.i64.max) :
    (Instr.lookup t (.map (some b)) (.int .i64 x) true).run P w = .ok (.tuple #[.int .i64 ((f x).getD 0), .bool (f x).isSome]) w := by
  obtain ⟨D, hD, hm, h1, h2⟩ := h
  obtain ⟨v, ps, hrun, hv⟩ := hD.look_ok (int_keyed hk) ht (hz w) (plainElem_int he (a := 0) (by decide)) (keyOf_int_mk hk (wf_i64 hx))
  obtain ⟨c, rfl, hc, _⟩ := plainElem_int_inv he hv
  have hc' : D.atKey (.int .i64 x) (.lit (.int .i64 0)) = .lit (.int .i64 c) := congrArg Prod.fst hc
  rw [hrun, h1]
  cases hf : f x with
  | some u =>
    rw [h2 x u hf] at hc'
    injection hc' with hc'
    injection hc' with _ hc'
    rw [hc']
    rfl
  | none =>
    have h3 := Maps.atKey_of_not_has (D := D) (k := .int .i64 x) (by rw [h1, hf]; rfl) (.lit (.int .i64 0))
    rw [h3] at hc'
    injection hc' with hc'
    injection hc' with _ hc'
    rw [← hc']
    rfl
/-- v := m[x] -/
theorem IMap.look (h : IMap P k e w b n f) {x : Int} (hx : IntKind.i64.min ≤ x ∧ x ≤ IntKind.i64.max) :
    (Instr.lookup t (.map (some b)) (.int .i64 x) false).run P w = .ok (.int .i64 ((f x).getD 0)) w := by
  obtain ⟨D, hD, hm, h1, h2⟩ := h
  obtain ⟨c, hrun, hc', _⟩ := hD.lookup_int (int_keyed hk) ht he (hz w) (keyOf_int_mk hk (wf_i64 hx))
  rw [hrun]
  cases hf : f x with
  | some u =>
    rw [h2 x u hf] at hc'
    injection hc' with hc'
    injection hc' with _ hc'
    rw [hc']
    rfl
  | none =>
    have h3 := Maps.atKey_of_not_has (D := D) (k := .int .i64 x) (by rw [h1, hf]; rfl) (.lit (.int .i64 0))
    rw [h3] at hc'
    injection hc' with hc'
    injection hc' with _ hc'
    rw [← hc']
    rfl
omit hz in
/-- m[x] = v -/
theorem IMap.put (h : IMap P k e w b n f) {x v : Int} (hx : IntKind.i64.min ≤ x ∧ x ≤ IntKind.i64.max) (hv : IntKind.i64.min ≤ v ∧ v ≤ IntKind.i64.max) (hn : n < maxLen) :
    ∃ w', (Instr.mapUpdate t (.map (some b)) (.int .i64 x) (.int .i64 v)).run P w = .ok () w' ∧ IMap P k e w' b (n + 1) (putF f x v) ∧ w.grownBy w' (some b) := by
  obtain ⟨D, hD, hm, h1, h2⟩ := h
  obtain ⟨w', hrun, hown, hg⟩ := hD.update (int_keyed hk) ht hn (keyOf_int_mk hk (wf_i64 hx)) (plainElem_int he (wf_i64 hv))
  refine ⟨w', hrun, ⟨_, hown, hm.put _ _, fun y => ?_, fun y u hu z => ?_⟩, hg⟩
  · unfold putF
    by_cases hy : y = x
    · subst hy
      rw [has_put_same hm (show WideAt.IsKeyLit (.int .i64 y) from trivial), if_pos rfl]
      rfl
    · rw [has_put_other (by intro he; injection he with _ he; exact hy he), if_neg hy, h1]
  · unfold putF at hu
    by_cases hy : y = x
    · subst hy
      rw [if_pos rfl] at hu
      cases hu
      exact atKey_put_same hm (show WideAt.IsKeyLit (.int .i64 y) from trivial) _ _
    · rw [if_neg hy] at hu
      rw [atKey_put_other (by intro he; injection he with _ he; exact hy he)]
      exact h2 y u hu z
end
end Go.Proofs.Ytngfabnkgpidjaa
