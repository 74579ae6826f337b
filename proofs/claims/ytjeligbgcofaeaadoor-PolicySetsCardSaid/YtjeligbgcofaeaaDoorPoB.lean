/- Nodes in memory; what walk counts lies within its bounds. -/
import Derived.Test.YtjeligbgcofaeaaDoorPoA
import Derived.Test.YtjeligbgcofaeaaDoorOwnK
import Derived.Test.YtjeligbgcofaeaaDoorRuA
namespace Go.Proofs.YtjeligbgcofaeaaDoor
open Go.RowKit
set_option linter.unusedVariables false
set_option linter.unusedSimpArgs false

structure Nd.Fits (x : Nd) : Prop where
  kind : I64 x.kind
  f : I64 x.f
  val : U64 x.val
  mask : U64 x.mask
def Nd.cells (x : Nd) (sl : Value) : List Value := [.int .i64 x.kind, .int .i64 x.f, .int .u64 x.val, .int .u64 x.mask, sl]
/-- a node of so many levels at most, its kids in frozen blocks -/
def nodeR : Nat → Rep Nd
  | 0 => fun _ _ _ _ => False
  | n + 1 => fun w F cs x => ∃ sl, cs = x.cells sl ∧ x.Fits ∧ listR 5 (nodeR n) w F [sl] x.kids
theorem nodeR_ok : ∀ n, (nodeR n).Ok 5
  | 0 => ⟨fun h => h.elim, fun h => h.elim, fun h _ _ => h⟩
  | n + 1 => by
    have ih := listR_ok (nodeR_ok n)
    refine ⟨fun h => ?_, fun h u hu => ?_, fun h hF hs => ?_⟩
    · obtain ⟨sl, rfl, _, _⟩ := h
      rfl
    · obtain ⟨sl, rfl, _, hl⟩ := h
      simp only [Nd.cells, List.mem_cons, List.not_mem_nil, or_false] at hu
      rcases hu with rfl | rfl | rfl | rfl | rfl
      · rfl
      · rfl
      · rfl
      · rfl
      · exact ih.one hl _ (by simp)
    · obtain ⟨sl, hc, hf, hl⟩ := h
      exact ⟨sl, hc, hf, ih.keep hl hF hs⟩
theorem nodeR_up {w : World} {F : Nat → Prop} : ∀ {n : Nat} {cs : List Value} {x : Nd}, nodeR n w F cs x → nodeR (n + 1) w F cs x
  | 0, _, _, h => h.elim
  | n + 1, cs, x, ⟨sl, hc, hf, A, c, e, h1, h2, h3⟩ => ⟨sl, hc, hf, A, c, e, h1, h2, fun k y hy => by
    obtain ⟨b, off, cs', hA, hb, hr, hg⟩ := h3 k y hy
    exact ⟨b, off, cs', hA, hb, nodeR_up hr, hg⟩⟩
theorem nodeR_le {w : World} {F : Nat → Prop} {n m : Nat} (hnm : n ≤ m) {cs : List Value} {x : Nd} (h : nodeR n w F cs x) : nodeR m w F cs x := by
  induction hnm with
  | refl => exact h
  | step _ ih => exact nodeR_up ih
theorem nodeR_below {w w' : World} {F : Nat → Prop} {n : Nat} {cs : List Value} {x : Nd} (h : nodeR n w F cs x) (hF : InF F w) (hb : Below w.heap.size w w') : nodeR n w' F cs x :=
  (nodeR_ok n).keep h (fun b hf => hb.block b (hF b hf)) (fun _ h => h)
/-- a kid's cells -/
theorem kid_at {w : World} {F : Nat → Prop} {n m c : Nat} {A : Option Addr} {ks : List Nd} (hl : listR 5 (nodeR n) w F [.slice A m c] ks) {i : Nat} (hi : i < m) : ∃ x b off cs, ks[i]? = some x ∧ A = some ⟨b, off, none⟩ ∧ F b ∧ nodeR n w F cs x ∧ w.rangeAt b (off + i * 5) cs ∧ cs.length = 5 := by
  obtain ⟨x, hx⟩ : ∃ x, ks[i]? = some x := ⟨_, List.getElem?_eq_getElem (by rw [← hl.len.1]; exact hi)⟩
  obtain ⟨b, off, cs, hA, hFb, hc, hr⟩ := hl.at_ hx
  exact ⟨x, b, off, cs, hx, hA, hFb, hc, hr, (nodeR_ok n).len hc⟩
/-! ### the count -/
mutual
theorem walkN_bd : ∀ (x : Nd) (want : Bool) (left deep : Int), (walkN x want left deep).2 = 0 → 1 ≤ (walkN x want left deep).1 ∧ (walkN x want left deep).1 ≤ left
  | .mk k f v m ks, want, left, deep, h => by
    rw [walkN] at h ⊢
    split at h
    · cases h
    · rename_i h1
      split at h
      · cases h
      · rename_i h2
        split at h
        · cases h
        · rename_i h3
          split at h
          · cases h
          · rename_i h4
            split at h
            · cases h
            · rename_i h5
              split at h
              · cases h
              · rename_i h6
                rw [if_neg h1, if_neg h2, if_neg h3, if_neg h4, if_neg h5, if_neg h6]
                exact walkKs_bd ks k 0 1 left (deep - 1) (by omega) (by omega) h
theorem walkKs_bd : ∀ (ks : List Nd) (k : Int) (i : Nat) (all left deep : Int), 1 ≤ all → all ≤ left → (walkKs ks k i all left deep).2 = 0 → 1 ≤ (walkKs ks k i all left deep).1 ∧ (walkKs ks k i all left deep).1 ≤ left
  | [], k, i, all, left, deep, h1, h2, _ => ⟨h1, h2⟩
  | x :: r, k, i, all, left, deep, h1, h2, h => by
    rw [walkKs] at h ⊢
    split at h
    · rename_i he
      exact absurd h he
    · rename_i he
      rw [if_neg he]
      have he' : (walkN x (wantK k i) (left - all) deep).2 = 0 := by
        simpa using he
      have := walkN_bd x (wantK k i) (left - all) deep he'
      exact walkKs_bd r k (i + 1) _ left deep (by omega) (by omega) h
end
end Go.Proofs.YtjeligbgcofaeaaDoor
