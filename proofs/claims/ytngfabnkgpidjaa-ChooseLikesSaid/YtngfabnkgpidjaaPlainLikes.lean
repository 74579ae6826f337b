/- The plain law of ChooseLikes: nothing is better than the best; what is liked most is the best. -/
import Derived.Test.YtngfabnkgpidjaaPlainWin
namespace Go.Proofs.Ytngfabnkgpidjaa
open Go.RowKit
set_option linter.unusedVariables false

structure notBetter (x c : Cand) : Prop where
  loc : x.at_.likes ≤ c.at_.likes
  hops : x.at_.likes = c.at_.likes → c.at_.hops ≤ x.at_.hops
  origin : x.at_.likes = c.at_.likes → x.at_.hops = c.at_.hops → c.at_.origin ≤ x.at_.origin
  med : x.at_.likes = c.at_.likes → x.at_.hops = c.at_.hops → x.at_.origin = c.at_.origin → x.at_.first = c.at_.first → c.at_.med ≤ x.at_.med
theorem best_not {xs : List Cand} (h : xs ≠ []) : ∃ (i : Nat) (c : Cand), bestI xs = (i : Int) ∧ xs[i]? = some c ∧ ∀ x ∈ xs, notBetter x c := by
  obtain ⟨i, c, h1, h2, ⟨h3, h4⟩, _⟩ := best_win h
  refine ⟨i, c, h1, h2, fun x hx => ?_⟩
  have a := h3 x hx
  rw [before_lt] at a
  refine ⟨by omega, fun e => by omega, fun e1 e2 => by omega, fun e1 e2 e3 e4 => ?_⟩
  refine h4 x hx (fun y hy => ?_) e4
  have b := h3 y hy
  rw [before_lt] at b ⊢
  omega
theorem likes_more {xs : List Cand} {k : Nat} {c' : Cand} (hk : k < xs.length) (h' : c'.at_.likes = 4294967295) (ho : ∀ (i : Nat) (x : Cand), xs[i]? = some x → i ≠ k → x.at_.likes ≠ 4294967295) (hb : ∀ x ∈ xs, x.at_.likes ≤ 4294967295) :
    bestI (xs.set k c') = (k : Int) := by
  have hne : xs.set k c' ≠ [] := by intro h; have := congrArg List.length h; simp at this; rw [this] at hk; simp at hk
  obtain ⟨i, c, h1, h2, ⟨h3, h4⟩, _⟩ := best_win hne
  have hc' : c' ∈ xs.set k c' := by
    refine List.mem_iff_getElem.2 ⟨k, by simpa using hk, by simp⟩
  have a := h3 c' hc'
  rw [before_lt] at a
  rw [h1]
  by_cases hik : i = k
  · rw [hik]
  · rw [List.getElem?_set_ne (fun e => hik e.symm)] at h2
    have b := ho i c h2 hik
    have d := hb c (List.mem_of_getElem? h2)
    omega

def orHas (n : Int) : Int := bits .or .i64 n 32
theorem or_i64 (a b : Nat) (ha : a < 9223372036854775808) (hb : b < 9223372036854775808) : bits .or .i64 (a : Int) (b : Int) = ((a ||| b : Nat) : Int) := by
  have hx : a ||| b < 2 ^ 63 := Nat.or_lt_two_pow (by omega) (by omega)
  show IntKind.i64.wrap ((BitVec.ofInt 64 (a : Int) ||| BitVec.ofInt 64 (b : Int)).toNat : Int) = _
  rw [BitVec.toNat_or, ofInt_i64 a ha, ofInt_i64 b hb, IntKind.wrap_i64]
  omega
theorem orHas_spec {n : Int} (h0 : 0 ≤ n) (h1 : n ≤ 9223372036854775807) : 0 ≤ orHas n ∧ orHas n ≤ 9223372036854775807 ∧ (orHas n).toNat.testBit 5 = true := by
  obtain ⟨m, rfl⟩ := Int.eq_ofNat_of_zero_le h0
  have e : orHas (m : Int) = ((m ||| 32 : Nat) : Int) := or_i64 m 32 (by omega) (by omega)
  have hx : m ||| 32 < 2 ^ 63 := Nat.or_lt_two_pow (by omega) (by omega)
  rw [e]
  refine ⟨by omega, by omega, ?_⟩
  rw [Int.toNat_natCast, Nat.testBit_or]
  have : Nat.testBit 32 5 = true := by decide
  rw [this, Bool.or_true]
def moreA (a : Attrs) : Attrs := { a with has := orHas a.has, loc := 4294967295 }
def moreC (c : Cand) : Cand := { c with at_ := moreA c.at_ }
theorem moreC_likes {c : Cand} (h0 : 0 ≤ c.at_.has) (h1 : c.at_.has ≤ 9223372036854775807) : (moreC c).at_.likes = 4294967295 := by
  have := (orHas_spec h0 h1).2.2
  simp [moreC, moreA, Attrs.likes, Attrs.is, this]
theorem moreC_good {c : Cand} (h : c.Good) (h1 : c.at_.has ≤ 9223372036854775807) : (moreC c).Good :=
  ⟨⟨h.small.path, h.small.segs⟩, (orHas_spec h.has h1).1⟩
end Go.Proofs.Ytngfabnkgpidjaa
