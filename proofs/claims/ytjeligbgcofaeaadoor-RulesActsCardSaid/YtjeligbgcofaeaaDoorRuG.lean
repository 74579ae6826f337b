/- Acts, plain: what an act makes of a header's numbers; two acts as one. -/
import Derived.Test.YtjeligbgcofaeaaDoorRuF
namespace Go.Proofs.YtjeligbgcofaeaaDoor
open Go.RowKit
set_option linter.unusedVariables false
set_option linter.unusedSimpArgs false

/-! ### the number of an address made of a number -/
theorem ofMac_num {n : Int} (h0 : 0 ≤ n) (h1 : n < 281474976710656) : (ofMac n).num = n := by
  have e5 : (2 : Int) ^ (40 - 8 * 0) = 1099511627776 := rfl
  have e4 : (2 : Int) ^ (40 - 8 * 1) = 4294967296 := rfl
  have e3 : (2 : Int) ^ (40 - 8 * 2) = 16777216 := rfl
  have e2 : (2 : Int) ^ (40 - 8 * 3) = 65536 := rfl
  have e1 : (2 : Int) ^ (40 - 8 * 4) = 256 := rfl
  have e0 : (2 : Int) ^ (40 - 8 * 5) = 1 := rfl
  simp only [Mac6.num, numL, Mac6.l, ofMac, ofB, List.foldl_cons, List.foldl_nil]
  rw [if_pos (by omega), if_pos (by omega), if_pos (by omega), if_pos (by omega), if_pos (by omega), if_pos (by omega), e0, e1, e2, e3, e4, e5]
  omega
theorem getN_with {h : Hdr} {k j : Nat} {n : Int} (hk : k < 9) (hj : j < 9) (h0 : 0 ≤ n) (h1 : n ≤ fullN k) : getN (withH h k n) j = if j = k then n else getN h j := by
  have f0 : fullN 0 = 255 := rfl
  have f1 : fullN 1 = 281474976710655 := rfl
  have f2 : fullN 2 = 281474976710655 := rfl
  have f3 : fullN 3 = 65535 := rfl
  have f6 : fullN 6 = 255 := rfl
  have f7 : fullN 7 = 65535 := rfl
  have f8 : fullN 8 = 65535 := rfl
  match k, hk, j, hj with
  | 0, _, 0, _ => exact (Int.emod_eq_of_lt h0 (by omega)).trans (if_pos rfl).symm
  | 0, _, 1, _ => rfl
  | 0, _, 2, _ => rfl
  | 0, _, 3, _ => rfl
  | 0, _, 4, _ => rfl
  | 0, _, 5, _ => rfl
  | 0, _, 6, _ => rfl
  | 0, _, 7, _ => rfl
  | 0, _, 8, _ => rfl
  | 1, _, 0, _ => rfl
  | 1, _, 1, _ => exact (ofMac_num h0 (by omega)).trans (if_pos rfl).symm
  | 1, _, 2, _ => rfl
  | 1, _, 3, _ => rfl
  | 1, _, 4, _ => rfl
  | 1, _, 5, _ => rfl
  | 1, _, 6, _ => rfl
  | 1, _, 7, _ => rfl
  | 1, _, 8, _ => rfl
  | 2, _, 0, _ => rfl
  | 2, _, 1, _ => rfl
  | 2, _, 2, _ => exact (ofMac_num h0 (by omega)).trans (if_pos rfl).symm
  | 2, _, 3, _ => rfl
  | 2, _, 4, _ => rfl
  | 2, _, 5, _ => rfl
  | 2, _, 6, _ => rfl
  | 2, _, 7, _ => rfl
  | 2, _, 8, _ => rfl
  | 3, _, 0, _ => rfl
  | 3, _, 1, _ => rfl
  | 3, _, 2, _ => rfl
  | 3, _, 3, _ => exact (Int.emod_eq_of_lt h0 (by omega)).trans (if_pos rfl).symm
  | 3, _, 4, _ => rfl
  | 3, _, 5, _ => rfl
  | 3, _, 6, _ => rfl
  | 3, _, 7, _ => rfl
  | 3, _, 8, _ => rfl
  | 4, _, 0, _ => rfl
  | 4, _, 1, _ => rfl
  | 4, _, 2, _ => rfl
  | 4, _, 3, _ => rfl
  | 4, _, 4, _ => rfl
  | 4, _, 5, _ => rfl
  | 4, _, 6, _ => rfl
  | 4, _, 7, _ => rfl
  | 4, _, 8, _ => rfl
  | 5, _, 0, _ => rfl
  | 5, _, 1, _ => rfl
  | 5, _, 2, _ => rfl
  | 5, _, 3, _ => rfl
  | 5, _, 4, _ => rfl
  | 5, _, 5, _ => rfl
  | 5, _, 6, _ => rfl
  | 5, _, 7, _ => rfl
  | 5, _, 8, _ => rfl
  | 6, _, 0, _ => rfl
  | 6, _, 1, _ => rfl
  | 6, _, 2, _ => rfl
  | 6, _, 3, _ => rfl
  | 6, _, 4, _ => rfl
  | 6, _, 5, _ => rfl
  | 6, _, 6, _ => exact (Int.emod_eq_of_lt h0 (by omega)).trans (if_pos rfl).symm
  | 6, _, 7, _ => rfl
  | 6, _, 8, _ => rfl
  | 7, _, 0, _ => rfl
  | 7, _, 1, _ => rfl
  | 7, _, 2, _ => rfl
  | 7, _, 3, _ => rfl
  | 7, _, 4, _ => rfl
  | 7, _, 5, _ => rfl
  | 7, _, 6, _ => rfl
  | 7, _, 7, _ => exact (Int.emod_eq_of_lt h0 (by omega)).trans (if_pos rfl).symm
  | 7, _, 8, _ => rfl
  | 8, _, 0, _ => rfl
  | 8, _, 1, _ => rfl
  | 8, _, 2, _ => rfl
  | 8, _, 3, _ => rfl
  | 8, _, 4, _ => rfl
  | 8, _, 5, _ => rfl
  | 8, _, 6, _ => rfl
  | 8, _, 7, _ => rfl
  | 8, _, 8, _ => exact (Int.emod_eq_of_lt h0 (by omega)).trans (if_pos rfl).symm
theorem getN_applyN {a : Act9} {h : Hdr} (ha : a.Right) {j : Nat} (hj : j < 9) : ∀ k, k ≤ 9 → getN (applyN a h k) j = if j < k ∧ bitB a.set j = true then a.val j else getN h j
  | 0, _ => by rw [if_neg (by omega)]; rfl
  | k + 1, hk => by
    have ih := getN_applyN (h := h) ha hj k (by omega)
    rw [applyN]
    by_cases hb : bitB a.set k = true
    · rw [if_pos hb, getN_with (by omega) hj (ha.val k (by omega)).1 (ha.val k (by omega)).2]
      by_cases e : j = k
      · subst e
        rw [if_pos rfl, if_pos ⟨by omega, hb⟩]
      · rw [if_neg e, ih]
        congr 1
        exact propext ⟨fun ⟨x, y⟩ => ⟨by omega, y⟩, fun ⟨x, y⟩ => ⟨by omega, y⟩⟩
    · rw [if_neg hb, ih]
      congr 1
      exact propext ⟨fun ⟨x, y⟩ => ⟨by omega, y⟩, fun ⟨x, y⟩ => ⟨by
        rcases Nat.lt_or_ge j k with hjk | hjk
        · exact hjk
        · obtain rfl : j = k := by omega
          exact absurd y hb, y⟩⟩
theorem getN_apply {a : Act9} {h : Hdr} (ha : a.Right) {j : Nat} (hj : j < 9) : getN (applyH a h) j = if bitB a.set j then a.val j else getN h j := by
  unfold applyH
  rw [getN_applyN ha hj 9 (by omega)]
  congr 1
  exact propext ⟨fun h => h.2, fun h => ⟨hj, h⟩⟩
/-! ### a header's fields -/
def fld (h : Hdr) : Nat → Int ⊕ Mac6
  | 0 => .inl h.port
  | 1 => .inr h.src
  | 2 => .inr h.dst
  | 3 => .inl h.typ
  | 4 => .inl h.sip
  | 5 => .inl h.dip
  | 6 => .inl h.proto
  | 7 => .inl h.sp
  | 8 => .inl h.dp
  | _ => .inl 0
def fv (k : Nat) (n : Int) : Int ⊕ Mac6 := if k = 1 ∨ k = 2 then .inr (ofMac n) else .inl n
theorem fld_ext {h g : Hdr} (e : ∀ j, j < 9 → fld h j = fld g j) : h = g := by
  obtain ⟨p, s, d, t, si, di, pr, sp, dp⟩ := h
  obtain ⟨p', s', d', t', si', di', pr', sp', dp'⟩ := g
  have e0 := e 0 (by omega)
  have e1 := e 1 (by omega)
  have e2 := e 2 (by omega)
  have e3 := e 3 (by omega)
  have e4 := e 4 (by omega)
  have e5 := e 5 (by omega)
  have e6 := e 6 (by omega)
  have e7 := e 7 (by omega)
  have e8 := e 8 (by omega)
  simp only [fld, Sum.inl.injEq, Sum.inr.injEq] at e0 e1 e2 e3 e4 e5 e6 e7 e8
  subst e0 e1 e2 e3 e4 e5 e6 e7 e8
  rfl
theorem fld_with (h : Hdr) {k j : Nat} (n : Int) (hk : k < 9) (hj : j < 9) : fld (withH h k n) j = if j = k then fv k n else fld h j := by
  match k, hk, j, hj with
  | 0, _, 0, _ => rfl
  | 0, _, 1, _ => rfl
  | 0, _, 2, _ => rfl
  | 0, _, 3, _ => rfl
  | 0, _, 4, _ => rfl
  | 0, _, 5, _ => rfl
  | 0, _, 6, _ => rfl
  | 0, _, 7, _ => rfl
  | 0, _, 8, _ => rfl
  | 1, _, 0, _ => rfl
  | 1, _, 1, _ => rfl
  | 1, _, 2, _ => rfl
  | 1, _, 3, _ => rfl
  | 1, _, 4, _ => rfl
  | 1, _, 5, _ => rfl
  | 1, _, 6, _ => rfl
  | 1, _, 7, _ => rfl
  | 1, _, 8, _ => rfl
  | 2, _, 0, _ => rfl
  | 2, _, 1, _ => rfl
  | 2, _, 2, _ => rfl
  | 2, _, 3, _ => rfl
  | 2, _, 4, _ => rfl
  | 2, _, 5, _ => rfl
  | 2, _, 6, _ => rfl
  | 2, _, 7, _ => rfl
  | 2, _, 8, _ => rfl
  | 3, _, 0, _ => rfl
  | 3, _, 1, _ => rfl
  | 3, _, 2, _ => rfl
  | 3, _, 3, _ => rfl
  | 3, _, 4, _ => rfl
  | 3, _, 5, _ => rfl
  | 3, _, 6, _ => rfl
  | 3, _, 7, _ => rfl
  | 3, _, 8, _ => rfl
  | 4, _, 0, _ => rfl
  | 4, _, 1, _ => rfl
  | 4, _, 2, _ => rfl
  | 4, _, 3, _ => rfl
  | 4, _, 4, _ => rfl
  | 4, _, 5, _ => rfl
  | 4, _, 6, _ => rfl
  | 4, _, 7, _ => rfl
  | 4, _, 8, _ => rfl
  | 5, _, 0, _ => rfl
  | 5, _, 1, _ => rfl
  | 5, _, 2, _ => rfl
  | 5, _, 3, _ => rfl
  | 5, _, 4, _ => rfl
  | 5, _, 5, _ => rfl
  | 5, _, 6, _ => rfl
  | 5, _, 7, _ => rfl
  | 5, _, 8, _ => rfl
  | 6, _, 0, _ => rfl
  | 6, _, 1, _ => rfl
  | 6, _, 2, _ => rfl
  | 6, _, 3, _ => rfl
  | 6, _, 4, _ => rfl
  | 6, _, 5, _ => rfl
  | 6, _, 6, _ => rfl
  | 6, _, 7, _ => rfl
  | 6, _, 8, _ => rfl
  | 7, _, 0, _ => rfl
  | 7, _, 1, _ => rfl
  | 7, _, 2, _ => rfl
  | 7, _, 3, _ => rfl
  | 7, _, 4, _ => rfl
  | 7, _, 5, _ => rfl
  | 7, _, 6, _ => rfl
  | 7, _, 7, _ => rfl
  | 7, _, 8, _ => rfl
  | 8, _, 0, _ => rfl
  | 8, _, 1, _ => rfl
  | 8, _, 2, _ => rfl
  | 8, _, 3, _ => rfl
  | 8, _, 4, _ => rfl
  | 8, _, 5, _ => rfl
  | 8, _, 6, _ => rfl
  | 8, _, 7, _ => rfl
  | 8, _, 8, _ => rfl
theorem fld_applyN {a : Act9} {h : Hdr} {j : Nat} (hj : j < 9) : ∀ k, k ≤ 9 → fld (applyN a h k) j = if j < k ∧ bitB a.set j = true then fv j (a.val j) else fld h j
  | 0, _ => by rw [if_neg (by omega)]; rfl
  | k + 1, hk => by
    have ih := fld_applyN (a := a) (h := h) hj k (by omega)
    rw [applyN]
    by_cases hb : bitB a.set k = true
    · rw [if_pos hb, fld_with _ _ (by omega) hj]
      by_cases e : j = k
      · subst e
        rw [if_pos rfl, if_pos ⟨by omega, hb⟩]
      · rw [if_neg e, ih]
        congr 1
        exact propext ⟨fun ⟨x, y⟩ => ⟨by omega, y⟩, fun ⟨x, y⟩ => ⟨by omega, y⟩⟩
    · rw [if_neg hb, ih]
      congr 1
      exact propext ⟨fun ⟨x, y⟩ => ⟨by omega, y⟩, fun ⟨x, y⟩ => ⟨by
        rcases Nat.lt_or_ge j k with hjk | hjk
        · exact hjk
        · obtain rfl : j = k := by omega
          exact absurd y hb, y⟩⟩
theorem fld_apply (a : Act9) (h : Hdr) {j : Nat} (hj : j < 9) : fld (applyH a h) j = if bitB a.set j then fv j (a.val j) else fld h j := by
  unfold applyH
  rw [fld_applyN hj 9 (by omega)]
  congr 1
  exact propext ⟨fun h => h.2, fun h => ⟨hj, h⟩⟩
/-! ### two acts as one -/
theorem then_bit {a b : Act9} (ha : a.Right) (hb : b.Right) (j : Nat) : ∀ k, k ≤ 9 → bitB (thenN a b k).set j = (bitB a.set j || (decide (j < k) && bitB b.set j))
  | 0, _ => by simp [thenN]
  | k + 1, hk => by
    have ih := then_bit ha hb j k (by omega)
    rw [thenN]
    by_cases h : bitB b.set k = true
    · rw [if_pos h, put_set _ (by omega), bitB_or (thenN_right ha hb k (by omega)).lo, ih]
      by_cases e : k = j
      · subst e
        simp [h]
      · rw [decide_eq_false e, Bool.or_false, decide_eq_decide.2 (show j < k ↔ j < k + 1 by omega)]
    · rw [if_neg h, ih]
      by_cases e : k = j
      · subst e
        simp [h]
      · rw [decide_eq_decide.2 (show j < k ↔ j < k + 1 by omega)]
theorem then_val {a b : Act9} {j : Nat} (hj : j < 9) : ∀ k, k ≤ 9 → (thenN a b k).val j = if j < k ∧ bitB b.set j = true then b.val j else a.val j
  | 0, _ => by rw [if_neg (by omega)]; rfl
  | k + 1, hk => by
    have ih := then_val (a := a) (b := b) hj k (by omega)
    rw [thenN]
    by_cases hb : bitB b.set k = true
    · rw [if_pos hb, put_val _ (by omega) hj]
      by_cases e : j = k
      · subst e
        rw [if_pos rfl, if_pos ⟨by omega, hb⟩]
      · rw [if_neg e, ih]
        congr 1
        exact propext ⟨fun ⟨x, y⟩ => ⟨by omega, y⟩, fun ⟨x, y⟩ => ⟨by omega, y⟩⟩
    · rw [if_neg hb, ih]
      congr 1
      exact propext ⟨fun ⟨x, y⟩ => ⟨by omega, y⟩, fun ⟨x, y⟩ => ⟨by
        rcases Nat.lt_or_ge j k with hjk | hjk
        · exact hjk
        · obtain rfl : j = k := by omega
          exact absurd y hb, y⟩⟩
theorem apply_then {a b : Act9} (ha : a.Right) (hb : b.Right) (h : Hdr) : applyH (thenA a b) h = applyH b (applyH a h) := by
  refine fld_ext fun j hj => ?_
  rw [fld_apply _ _ hj, fld_apply _ _ hj, fld_apply _ _ hj]
  unfold thenA
  rw [then_bit ha hb j 9 (by omega), then_val hj 9 (by omega), decide_eq_true hj]
  cases e1 : bitB b.set j
  · simp
  · simp [hj]
theorem act_ext {a b : Act9} (hs : a.set = b.set) (hv : ∀ j, j < 9 → a.val j = b.val j) : a = b := by
  obtain ⟨s, a0, a1, a2, a3, a4, a5, a6, a7, a8⟩ := a
  obtain ⟨t, b0, b1, b2, b3, b4, b5, b6, b7, b8⟩ := b
  have e0 := hv 0 (by omega)
  have e1 := hv 1 (by omega)
  have e2 := hv 2 (by omega)
  have e3 := hv 3 (by omega)
  have e4 := hv 4 (by omega)
  have e5 := hv 5 (by omega)
  have e6 := hv 6 (by omega)
  have e7 := hv 7 (by omega)
  have e8 := hv 8 (by omega)
  simp only [Act9.val] at e0 e1 e2 e3 e4 e5 e6 e7 e8
  simp only at hs
  subst hs e0 e1 e2 e3 e4 e5 e6 e7 e8
  rfl
theorem bits_ext {s t : Int} (hs0 : 0 ≤ s) (ht0 : 0 ≤ t) (h : ∀ j, bitB s j = bitB t j) : s = t := by
  obtain ⟨n, rfl⟩ : ∃ n : Nat, s = n := ⟨s.toNat, by omega⟩
  obtain ⟨m, rfl⟩ : ∃ n : Nat, t = n := ⟨t.toNat, by omega⟩
  congr 1
  refine Nat.eq_of_testBit_eq fun j => ?_
  rw [← bitB_nat, ← bitB_nat]
  exact h j
theorem then_self {a : Act9} (ha : a.Right) : thenA a a = a := by
  have hr := thenN_right ha ha 9 (by omega)
  refine act_ext (bits_ext hr.lo ha.lo fun j => ?_) fun j hj => ?_
  · unfold thenA
    rw [then_bit ha ha j 9 (by omega)]
    cases bitB a.set j <;> simp
  · unfold thenA
    rw [then_val hj 9 (by omega)]
    split <;> rfl
theorem cmpA_neg (a b : Act9) : cmpA a b = -cmpA b a := cmpL_neg _ _
theorem cmpA_bd (a b : Act9) : -1 ≤ cmpA a b ∧ cmpA a b ≤ 1 := by
  unfold cmpA
  rcases cmpL_bd (a.set :: a.vs) (b.set :: b.vs) with h | h | h <;> omega
theorem cmpA_zero (a b : Act9) : (cmpA a b == 0) = eqAB a b := by
  rw [Bool.eq_iff_iff, eqAB_iff, beq_iff_eq]
  constructor
  · intro h
    have := cmpL_eq h
    obtain ⟨s, a0, a1, a2, a3, a4, a5, a6, a7, a8⟩ := a
    obtain ⟨t, b0, b1, b2, b3, b4, b5, b6, b7, b8⟩ := b
    simp only [Act9.vs, List.cons.injEq, and_true] at this
    obtain ⟨rfl, rfl, rfl, rfl, rfl, rfl, rfl, rfl, rfl, rfl⟩ := this
    rfl
  · rintro rfl
    exact cmpL_self _
theorem right_rightA {a : Act9} (ha : a.Fits) (h : rightA a = true) : a.Right := (right_iff ha).1 h
theorem Act9.Right.rightA {a : Act9} (h : a.Right) (hf : a.Fits) : rightA a = true := (right_iff hf).2 h
theorem Act9.Right.fits {a : Act9} (h : a.Right) : a.Fits := by
  refine ⟨⟨by have := h.lo; omega, by have := h.hi; omega⟩, fun k => ?_⟩
  by_cases hk : k < 9
  · have := h.val k hk
    have := fullN_bd hk
    exact ⟨by omega, by omega⟩
  · match k, hk with
    | k + 9, _ => exact ⟨by show (0 : Int) ≤ 0; omega, by show (0 : Int) ≤ _; omega⟩
end Go.Proofs.YtjeligbgcofaeaaDoor
