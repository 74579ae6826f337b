/- Slices of the call's own whose elements are structs of k cells (each element its cells). Nothing here speaks of one program. -/
import Derived.Test.YtjeligbgcofaeaaDoorCompK
namespace Go.Proofs.YtjeligbgcofaeaaDoor
open Go.RowKit Go.Sort Go.Shelf
set_option linter.unusedVariables false

section
variable {α : Type} (enc : α → List Value)
/-- an element is its cells -/
def encR : Rep α := fun _ _ cs x => cs = enc x
variable {enc} {k : Nat}
theorem encR_ok (hk : ∀ x, (enc x).length = k) (h1 : ∀ x, ∀ v ∈ enc x, v.oneCell' = true) : (encR enc).Ok k := ⟨fun h => by rw [h, hk], fun h => by rw [h]; exact h1 _, fun h _ _ => h⟩
theorem groupsK_eq {w : World} {F : Nat → Prop} : ∀ {cells : List Value} {xs : List α}, Groups (encR enc) w F cells xs → cells = cellsK enc xs
  | _, [], rfl => rfl
  | _, x :: r, ⟨cs, rest, he, hc, hg⟩ => by
    have hc' : cs = enc x := hc
    subst he
    subst hc'
    rw [groupsK_eq hg]
    rfl
theorem groupsK_mk {w : World} {F : Nat → Prop} : ∀ (xs : List α), Groups (encR enc) w F (cellsK enc xs) xs
  | [] => rfl
  | x :: r => ⟨enc x, cellsK enc r, rfl, rfl, groupsK_mk r⟩
theorem own_blkK {t : TypeId} {w : World} {F : Nat → Prop} {base n c : Nat} {ad : Addr} {xs : List α} (h : ownR t k (encR enc) w F base (.slice (some ad) n c) xs) :
    ∃ g T, ad = ⟨g, 0, none⟩ ∧ base ≤ g ∧ ¬ F g ∧ Blk w g t (cellsK enc xs ++ T).toArray ∧ n = xs.length ∧ n ≤ c ∧ c ≤ maxLen ∧ (cellsK enc xs ++ T).length = c * k := by
  obtain ⟨cells, h1, h2, h3⟩ := h
  obtain rfl := groupsK_eq h2
  rcases h1.2 with ⟨hv, hn⟩ | ⟨g, cap, cur, hv, hb, hg, hc, hm, hs, ht⟩
  · cases hv
  · cases hv
    obtain ⟨T, hT, _, _, _, hl, _⟩ := ownsRow_blk h1
    exact ⟨g, T, rfl, hb, h3 g rfl, hT, rfl, hc, hm, hl⟩
theorem own_mkK (hk : ∀ x, (enc x).length = k) {t : TypeId} {w : World} {F : Nat → Prop} {base g n c : Nat} {xs : List α} {T : List Value} (hb : base ≤ g) (hF : ¬ F g) (h : Blk w g t (cellsK enc xs ++ T).toArray) (hn : n = xs.length) (hc : n ≤ c) (hm : c ≤ maxLen) (hl : (cellsK enc xs ++ T).length = c * k) :
    ownR t k (encR enc) w F base (.slice (some ⟨g, 0, none⟩) n c) xs := by
  subst hn
  exact ⟨cellsK enc xs, blk_ownsRow h hb hc hm hl (cellsK_len hk xs), groupsK_mk xs, fun k hk => by cases hk; exact hF⟩
theorem own_nilK {t : TypeId} {w : World} {F : Nat → Prop} {base n c : Nat} {xs : List α} (h : ownR t k (encR enc) w F base (.slice none n c) xs) : xs = [] ∧ n = 0 ∧ c = 0 := by
  obtain ⟨cells, h1, h2, h3⟩ := h
  rcases h1.2 with ⟨hv, hn⟩ | ⟨g, cap, cur, hv, hb, hg, hc, hm, hs, ht⟩
  · cases hv
    exact ⟨List.eq_nil_of_length_eq_zero hn, rfl, rfl⟩
  · cases hv
/-- a frozen element, its cells -/
theorem encR_at {w : World} {F : Nat → Prop} {A : Option Addr} {n c : Nat} {xs : List α} (hl : listR k (encR enc) w F [.slice A n c] xs) {i : Nat} (hi : i < n) : ∃ x b off, xs[i]? = some x ∧ A = some ⟨b, off, none⟩ ∧ F b ∧ w.rangeAt b (off + i * k) (enc x) := by
  obtain ⟨x, hx⟩ : ∃ x, xs[i]? = some x := ⟨_, List.getElem?_eq_getElem (by rw [← hl.len.1]; exact hi)⟩
  obtain ⟨b, off, cs, hA, hFb, hc, hr⟩ := hl.at_ hx
  have hc' : cs = enc x := hc
  subst hc'
  exact ⟨x, b, off, hx, hA, hFb, hr⟩
end
theorem grownBy_selfK (w : World) (r : Option Nat) : w.grownBy w r := ⟨rfl, rfl, rfl, Nat.le_refl _, fun _ _ _ => rfl⟩
theorem below_grownK {a w w' : World} {r : Option Nat} (h : Below a.heap.size a w) (k : w.grownBy w' r) (hg : ∀ g, r = some g → a.heap.size ≤ g) : Below a.heap.size a w' :=
  h.trans ⟨k.os, k.tape, k.output, k.size, fun i hi => k.block i (Nat.lt_of_lt_of_le hi h.size) (fun e => by have := hg i e.symm; omega)⟩
end Go.Proofs.YtjeligbgcofaeaaDoor
