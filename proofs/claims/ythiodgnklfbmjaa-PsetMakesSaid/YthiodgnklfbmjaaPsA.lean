/- Prefixes as data; Mask, Check, Cmp. -/
import Derived.Test.YthiodgnklfbmjaaLib4
import Derived.BigQuiet
import Derived.Deep.QuietTactic
import Derived.Deep.RegionHeld3
import Derived.Deep.DeepCutAuto
namespace Go.Proofs.Ythiodgnklfbmjaa
open Go.RowKit
set_option linter.unusedVariables false

structure Pfx where
  addr : Int
  len : Int
structure Pfx.Fits (p : Pfx) : Prop where
  addr : 0 ≤ p.addr ∧ p.addr ≤ 4294967295
  len : -9223372036854775808 ≤ p.len ∧ p.len ≤ 9223372036854775807
def pfxR : Rep Pfx := fun _ _ cs p => cs = [.int .u32 p.addr, .int .i64 p.len] ∧ p.Fits
theorem pfxR_ok : pfxR.Ok 2 := by
  refine ⟨?_, ?_, ?_⟩
  · rintro w F cs x ⟨rfl, _⟩
    rfl
  · rintro w F cs x ⟨rfl, _⟩ u hu
    simp at hu
    rcases hu with rfl | rfl <;> rfl
  · rintro w w' F F' cs x h _ _
    exact h
def maskI (n : Int) : Int := if n < 1 then 0 else if 32 ≤ n then 4294967295 else 4294967295 * 2 ^ (32 - n).toNat % 4294967296
set_option maxHeartbeats 400000 in
theorem ip_Mask (n : Int) (w : World) (h1 : -9223372036854775808 ≤ n) (h2 : n ≤ 9223372036854775807) :
    Calls Try.prog 43 #[.int .i64 n] w fun e w' => e = .returned (.int .u32 (maskI n)) ∧ w' = w := by
  by_cases hn : n < 1
  · have e : maskI n = 0 := by simp [maskI, hn]
    have E := Lib.hid e
    clear e
    go_enter Try.func43, Try.ntmps43
    go_wp2
    go_ret
    exact ⟨ret_int E.out.symm, rfl⟩
  by_cases hm : 32 ≤ n
  · have e : maskI n = 4294967295 := by unfold maskI; rw [if_neg hn, if_pos hm]
    have E := Lib.hid e
    clear e
    by_cases h32 : n = 32
    · subst h32
      go_enter Try.func43, Try.ntmps43
      go_wp2
      go_ret
      exact ⟨ret_int E.out.symm, rfl⟩
    · have h33 : 32 < n := by omega
      go_enter Try.func43, Try.ntmps43
      go_wp2
      go_ret
      exact ⟨ret_int E.out.symm, rfl⟩
  · have e : maskI n = 4294967295 * 2 ^ (32 - n).toNat % 4294967296 := by unfold maskI; rw [if_neg hn, if_neg hm]
    have E := Lib.hid e
    have h33 : n < 32 := by omega
    clear e
    go_enter Try.func43, Try.ntmps43
    go_wp2
    go_ret
    exact ⟨ret_int E.out.symm, rfl⟩
def Pfx.good (p : Pfx) : Bool := decide (0 ≤ p.len) && decide (p.len ≤ 32) && (bits .andNot .u32 p.addr (maskI p.len) == 0)
set_option maxHeartbeats 1000000 in
theorem ip_Check (p : Pfx) (w : World) (hp : p.Fits) :
    Calls Try.prog 31 #[.agg #[.int .u32 p.addr, .int .i64 p.len]] w fun e w' => e = .returned (.int .i64 (if p.good then 0 else 1)) ∧ Below w.heap.size w w' := by
  have a1 := hp.addr
  have a2 := hp.len
  obtain ⟨a, l⟩ := p
  simp only at a1 a2 ⊢
  clear hp
  by_cases h1 : l < 0
  · have e : (Pfx.mk a l).good = false := by have : decide (0 ≤ l) = false := decide_eq_false (by omega); simp [Pfx.good, this]
    rw [e]
    have hd : decide (l < 0) = true := decide_eq_true h1
    clear e
    go_enter Try.func31, Try.ntmps31
    go_wp2_with fail
    go_quiet (fail)
    go_wp2_with fail
    go_ret
    exact ⟨rfl, below_dn2 ((Below.refl _ _).alloc (Nat.le_refl _) _) _⟩
  have hd : decide (l < 0) = false := decide_eq_false h1
  by_cases h2 : 32 < l
  · have e : (Pfx.mk a l).good = false := by have : decide (l ≤ 32) = false := decide_eq_false (by omega); simp [Pfx.good, this]
    rw [e]
    have hd2 : decide (32 < l) = true := decide_eq_true h2
    clear e
    go_enter Try.func31, Try.ntmps31
    go_wp2_with fail
    go_quiet (fail)
    go_wp2_with fail
    go_ret
    exact ⟨rfl, below_dn2 ((Below.refl _ _).alloc (Nat.le_refl _) _) _⟩
  have hd2 : decide (32 < l) = false := decide_eq_false h2
  obtain ⟨m, hm⟩ : ∃ m, m = maskI l := ⟨_, rfl⟩
  have hc := fun W => ip_Mask l W (by omega) (by omega)
  rw [← hm] at hc
  have Hc := Lib.hid hc
  obtain ⟨x, hx⟩ : ∃ x, x = bits .andNot .u32 a m := ⟨_, rfl⟩
  have e : (Pfx.mk a l).good = (x == 0) := by
    have d1 : decide (0 ≤ l) = true := decide_eq_true (by omega)
    have d2 : decide (l ≤ 32) = true := decide_eq_true (by omega)
    simp [Pfx.good, d1, d2, ← hm, ← hx]
  rw [e]
  have Hx := Lib.hid hx
  clear hm hc hx e
  cases hq : (x == 0)
  · have hq2 : (x != 0) = true := by simp only [bne, hq]; rfl
    have hb : (bits .andNot .u32 a m != 0) = true := by rw [← Hx.out]; exact hq2
    go_enter Try.func31, Try.ntmps31
    go_wp2_with fail
    go_quiet ((go_at_call 43; exact Calls.quiet_of_same (Hc.out _)))
    go_wp2_with fail
    go_ret
    exact ⟨rfl, below_dn2 ((Below.refl _ _).alloc (Nat.le_refl _) _) _⟩
  · have hq2 : (x != 0) = false := by simp only [bne, hq]; rfl
    have hb : (bits .andNot .u32 a m != 0) = false := by rw [← Hx.out]; exact hq2
    go_enter Try.func31, Try.ntmps31
    go_wp2_with fail
    go_quiet ((go_at_call 43; exact Calls.quiet_of_same (Hc.out _)))
    go_wp2_with fail
    go_ret
    exact ⟨rfl, below_dn2 ((Below.refl _ _).alloc (Nat.le_refl _) _) _⟩
def Pfx.vals (p : Pfx) : Array Value := #[.int .u32 p.addr, .int .i64 p.len]
def cmpP (p q : Pfx) : Int := if p.addr < q.addr ∨ (p.addr = q.addr ∧ p.len < q.len) then -1 else if p.addr = q.addr ∧ p.len = q.len then 0 else 1
set_option maxHeartbeats 1000000 in
theorem ip_CmpX (p q : Pfx) (w : World) :
    Calls Try.prog 13 #[.agg p.vals, .agg q.vals] w fun e w' => e = .returned (.int .i64 (cmpP p q)) ∧ w' = (w.alloc (.cells p.vals 35)).alloc (.cells q.vals 35) := by
  obtain ⟨a, l⟩ := p
  obtain ⟨b, m⟩ := q
  simp only [Pfx.vals]
  by_cases h1 : a < b
  · have e : cmpP ⟨a, l⟩ ⟨b, m⟩ = -1 := by simp [cmpP, h1]
    rw [e]
    clear e
    go_enter Try.func13, Try.ntmps13
    go_wp2
    go_ret
    exact ⟨rfl, rfl⟩
  by_cases h2 : a = b
  · subst h2
    by_cases h3 : l < m
    · have e : cmpP ⟨a, l⟩ ⟨a, m⟩ = -1 := by simp [cmpP, h3]
      rw [e]
      clear e
      go_enter Try.func13, Try.ntmps13
      go_wp2
      go_ret
      exact ⟨rfl, rfl⟩
    by_cases h4 : l = m
    · subst h4
      have e : cmpP ⟨a, l⟩ ⟨a, l⟩ = 0 := by simp [cmpP]
      rw [e]
      clear e
      go_enter Try.func13, Try.ntmps13
      go_wp2
      go_ret
      exact ⟨rfl, rfl⟩
    · have e : cmpP ⟨a, l⟩ ⟨a, m⟩ = 1 := by simp [cmpP, h3, h4]
      rw [e]
      have h5 : (l == m) = false := by simpa using h4
      clear e
      go_enter Try.func13, Try.ntmps13
      go_wp2
      go_ret
      exact ⟨rfl, rfl⟩
  · have e : cmpP ⟨a, l⟩ ⟨b, m⟩ = 1 := by simp [cmpP, h1, h2]
    rw [e]
    have h5 : (a == b) = false := by simpa using h2
    clear e
    go_enter Try.func13, Try.ntmps13
    go_wp2
    go_ret
    exact ⟨rfl, rfl⟩
theorem ip_Cmp (p q : Pfx) (w : World) (hp : p.Fits) (hq : q.Fits) :
    Calls Try.prog 13 #[.agg p.vals, .agg q.vals] w fun e w' => e = .returned (.int .i64 (cmpP p q)) ∧ w' = (w.alloc (.cells p.vals 35)).alloc (.cells q.vals 35) := ip_CmpX p q w
end Go.Proofs.Ythiodgnklfbmjaa
