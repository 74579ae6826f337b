/- Plain: the two halves of a prefix have just the addresses of the whole. -/
import Derived.Test.YthiodgnklfbmjaaPsO
namespace Go.Proofs.Ythiodgnklfbmjaa
open Go.RowKit
set_option linter.unusedVariables false

theorem ofInt32 (n : Nat) (h : n < 4294967296) : (BitVec.ofInt 32 (n : Int)).toNat = n := by
  simp
  omega
theorem wrap32 (n : Nat) (h : n < 4294967296) : IntKind.u32.wrap (n : Int) = n := by
  rw [IntKind.wrap_u32]; omega
theorem bits_and32 (n m : Nat) (hn : n < 4294967296) (hm : m < 4294967296) : bits .and .u32 (n : Int) (m : Int) = ((n &&& m : Nat) : Int) := by
  show IntKind.u32.wrap ((BitVec.ofInt 32 (n : Int) &&& BitVec.ofInt 32 (m : Int)).toNat : Int) = _
  rw [BitVec.toNat_and, ofInt32 n hn, ofInt32 m hm]
  exact wrap32 _ (Nat.lt_of_le_of_lt Nat.and_le_left hn)
theorem bits_or32 (n m : Nat) (hn : n < 4294967296) (hm : m < 4294967296) : bits .or .u32 (n : Int) (m : Int) = ((n ||| m : Nat) : Int) := by
  show IntKind.u32.wrap ((BitVec.ofInt 32 (n : Int) ||| BitVec.ofInt 32 (m : Int)).toNat : Int) = _
  rw [BitVec.toNat_or, ofInt32 n hn, ofInt32 m hm]
  exact wrap32 _ (Nat.or_lt_two_pow (n := 32) hn hm)
theorem bits_andNot32 (n m : Nat) (hn : n < 4294967296) (hm : m < 4294967296) : bits .andNot .u32 (n : Int) (m : Int) = ((n &&& (4294967295 - m) : Nat) : Int) := by
  show IntKind.u32.wrap ((BitVec.ofInt 32 (n : Int) &&& ~~~ BitVec.ofInt 32 (m : Int)).toNat : Int) = _
  rw [BitVec.toNat_and, BitVec.toNat_not, ofInt32 n hn, ofInt32 m hm]
  exact wrap32 _ (Nat.lt_of_le_of_lt Nat.and_le_left hn)
theorem mask_nat (k : Nat) (hk : k ≤ 32) : maskI (32 - (k : Int)) = ((4294967296 - 2 ^ k : Nat) : Int) := by
  rcases Nat.lt_or_ge k 33 with h | h
  · match k, h with
    | 0, _ => rfl | 1, _ => rfl | 2, _ => rfl | 3, _ => rfl | 4, _ => rfl | 5, _ => rfl | 6, _ => rfl | 7, _ => rfl | 8, _ => rfl | 9, _ => rfl | 10, _ => rfl
    | 11, _ => rfl | 12, _ => rfl | 13, _ => rfl | 14, _ => rfl | 15, _ => rfl | 16, _ => rfl | 17, _ => rfl | 18, _ => rfl | 19, _ => rfl | 20, _ => rfl
    | 21, _ => rfl | 22, _ => rfl | 23, _ => rfl | 24, _ => rfl | 25, _ => rfl | 26, _ => rfl | 27, _ => rfl | 28, _ => rfl | 29, _ => rfl | 30, _ => rfl | 31, _ => rfl | 32, _ => rfl
    | n + 33, h => omega
  · omega
theorem two_pow_le32 {k : Nat} (hk : k ≤ 32) : 2 ^ k ≤ 4294967296 := Nat.pow_le_pow_right (n := 2) (by omega) hk
theorem and_mask (n k : Nat) (hn : n < 4294967296) (hk : k ≤ 32) : n &&& (4294967296 - 2 ^ k) = 2 ^ k * (n / 2 ^ k) := by
  have h1 : 4294967296 - 2 ^ k = 2 ^ 32 - ((2 ^ k - 1) + 1) := by have := Nat.two_pow_pos k; omega
  apply Nat.eq_of_testBit_eq
  intro i
  rw [h1, Nat.testBit_and, Nat.testBit_two_pow_sub_succ (by have := two_pow_le32 hk; have := Nat.two_pow_pos k; omega), Nat.testBit_two_pow_sub_one, Nat.testBit_two_pow_mul, Nat.testBit_div_two_pow]
  by_cases h2 : k ≤ i
  · have h3 : i - k + k = i := by omega
    rw [h3]
    by_cases h4 : i < 32
    · simp [h2, h4]
    · have h5 : n.testBit i = false := Nat.testBit_lt_two_pow (Nat.lt_of_lt_of_le hn (show 4294967296 ≤ 2 ^ i from Nat.pow_le_pow_right (n := 2) (i := 32) (by omega) (by omega)))
      simp [h5]
  · simp [h2]
    intro _ _
    omega
theorem andNot_mask (n k : Nat) (hn : n < 4294967296) (hk : k ≤ 32) : n &&& (4294967295 - (4294967296 - 2 ^ k)) = n % 2 ^ k := by
  have h1 : 4294967295 - (4294967296 - 2 ^ k) = 2 ^ k - 1 := by have := Nat.two_pow_pos k; have := two_pow_le32 hk; omega
  rw [h1, Nat.and_two_pow_sub_one_eq_mod]
/-- a prefix in its form: k bits are free -/
theorem good_nat (a k : Nat) (ha : a < 4294967296) (hk : k ≤ 32) : (Pfx.mk a (32 - (k : Int))).good = decide (a % 2 ^ k = 0) := by
  have h1 : decide (0 ≤ (32 : Int) - (k : Int)) = true := decide_eq_true (by omega)
  have h2 : decide ((32 : Int) - (k : Int) ≤ 32) = true := decide_eq_true (by omega)
  simp only [Pfx.good, h1, h2, mask_nat k hk]
  rw [bits_andNot32 _ _ ha (by have := Nat.two_pow_pos k; omega), andNot_mask a k ha hk]
  generalize a % 2 ^ k = z
  rw [Bool.true_and, Bool.true_and, Bool.eq_iff_iff, beq_iff_eq, decide_eq_true_eq]
  omega
theorem has_nat (a k x : Nat) (ha : a < 4294967296) (hk : k ≤ 32) (hx : x < 4294967296) : hasP (Pfx.mk a (32 - (k : Int))) x = (decide (a % 2 ^ k = 0) && decide (2 ^ k * (x / 2 ^ k) = a)) := by
  unfold hasP
  rw [good_nat a k ha hk]
  simp only [mask_nat k hk]
  rw [bits_and32 _ _ hx (by have := Nat.two_pow_pos k; omega), and_mask x k hx hk]
  congr 1
  generalize 2 ^ k * (x / 2 ^ k) = z
  rw [Bool.eq_iff_iff, beq_iff_eq, decide_eq_true_eq]
  omega
theorem halves_nat (a k x : Nat) (h : a % 2 ^ (k + 1) = 0) : (decide (2 ^ k * (x / 2 ^ k) = a) || decide (2 ^ k * (x / 2 ^ k) = a + 2 ^ k)) = decide (2 ^ (k + 1) * (x / 2 ^ (k + 1)) = a) := by
  have hp := Nat.two_pow_pos k
  obtain ⟨q, hq⟩ : ∃ q, q = 2 ^ k := ⟨_, rfl⟩
  have h2 : 2 ^ (k + 1) = 2 * q := by rw [Nat.pow_succ, hq]; omega
  rw [h2] at h ⊢
  rw [← hq] at hp ⊢
  have h3 : x / (2 * q) = x / q / 2 := by rw [Nat.mul_comm, Nat.div_div_eq_div_mul]
  obtain ⟨u, hu⟩ : ∃ u, u = x / q := ⟨_, rfl⟩
  obtain ⟨v, hv⟩ : ∃ v, a = 2 * q * v := ⟨a / (2 * q), by have := Nat.div_add_mod a (2 * q); omega⟩
  rw [h3, ← hu, hv]
  have e1 : 2 * q * v = q * (2 * v) := by rw [Nat.mul_comm 2 q, Nat.mul_assoc]
  have e2 : 2 * q * (u / 2) = q * (2 * (u / 2)) := by rw [Nat.mul_comm 2 q, Nat.mul_assoc]
  have e3 : q * (2 * v) + q = q * (2 * v + 1) := by rw [Nat.mul_add, Nat.mul_one]
  rw [e1, e2, e3]
  rw [Bool.eq_iff_iff]
  simp only [Bool.or_eq_true, decide_eq_true_eq]
  have key : ∀ s t : Nat, q * s = q * t ↔ s = t := fun s t => ⟨Nat.eq_of_mul_eq_mul_left hp, fun h => by rw [h]⟩
  rw [key, key, key]
  omega
theorem pfx_nat {p : Pfx} (hp : p.Fits) (hg : p.good = true) : ∃ a k : Nat, a < 4294967296 ∧ k ≤ 32 ∧ p = ⟨(a : Int), 32 - (k : Int)⟩ ∧ a % 2 ^ k = 0 := by
  obtain ⟨pa, pl⟩ := p
  have h1 := hp.addr
  simp only at h1
  have hg' := hg
  simp only [Pfx.good, Bool.and_eq_true, decide_eq_true_eq] at hg'
  obtain ⟨⟨h2, h3⟩, _⟩ := hg'
  refine ⟨pa.toNat, (32 - pl).toNat, by omega, by omega, ?_, ?_⟩
  · congr 1 <;> omega
  · have e : (Pfx.mk pa pl) = ⟨(pa.toNat : Int), 32 - ((32 - pl).toNat : Int)⟩ := by congr 1 <;> omega
    rw [e, good_nat _ _ (by omega) (by omega)] at hg
    simpa using hg
theorem hi_nat (a k : Nat) (ha : a < 4294967296) (hk : k + 1 ≤ 32) (h : a % 2 ^ (k + 1) = 0) : hiA a (32 - ((k + 1 : Nat) : Int)) = ((a + 2 ^ k : Nat) : Int) ∧ a + 2 ^ k < 4294967296 := by
  have e : (31 - (32 - ((k + 1 : Nat) : Int))).toNat = k := by omega
  have hk1 : 2 ^ (k + 1) ≤ 4294967296 := two_pow_le32 hk
  have hpp : 2 ^ (k + 1) = 2 ^ k + 2 ^ k := by rw [Nat.pow_succ]; omega
  have hp := Nat.two_pow_pos k
  have e2 : ((2 : Int) ^ k % 4294967296) = ((2 ^ k : Nat) : Int) := by
    have e3 : (2 : Int) ^ k = ((2 ^ k : Nat) : Int) := by rw [Int.natCast_pow]; rfl
    rw [e3]
    omega
  unfold hiA
  rw [e, e2, bits_or32 _ _ ha (by omega)]
  have h2 : a ||| 2 ^ k = a + 2 ^ k := by
    have h3 : a = 2 ^ (k + 1) * (a / 2 ^ (k + 1)) := by have := Nat.div_add_mod a (2 ^ (k + 1)); omega
    have h4 := Nat.two_pow_add_eq_or_of_lt (i := k + 1) (b := 2 ^ k) (by omega) (a / 2 ^ (k + 1))
    rw [← h3] at h4
    exact h4.symm
  rw [h2]
  refine ⟨rfl, ?_⟩
  -- a is a multiple of 2^(k+1) below 2^32
  obtain ⟨d, hd⟩ : ∃ d, 4294967296 = 2 ^ (k + 1) * d := ⟨2 ^ (32 - (k + 1)), by rw [← Nat.pow_add, show k + 1 + (32 - (k + 1)) = 32 by omega]⟩
  have h5 := Nat.div_add_mod a (2 ^ (k + 1))
  have h6 : a / 2 ^ (k + 1) < d := by
    rw [Nat.div_lt_iff_lt_mul (by omega), Nat.mul_comm, ← hd]
    exact ha
  have h7 : 2 ^ (k + 1) * (a / 2 ^ (k + 1)) + 2 ^ (k + 1) ≤ 2 ^ (k + 1) * d := by
    rw [← Nat.mul_succ]
    exact Nat.mul_le_mul_left _ h6
  omega
theorem halves (p : Pfx) (hp : p.Fits) (h : halfE p = 0) (x : Int) (hx : 0 ≤ x ∧ x ≤ 4294967295) : (∀ b, (halfP p b).Fits) ∧ ofE [halfP p true, halfP p false] = 0 ∧ (ofL [halfP p true, halfP p false]).length = 2 ∧ coversP (ofL [halfP p true, halfP p false]) x = hasP p x := by
  unfold halfE at h
  have hc : p.good = true ∧ p.len ≠ 32 := by
    by_cases hc : p.good = true ∧ p.len ≠ 32
    · exact hc
    · rw [if_neg hc] at h; cases h
  have hP : ∀ b, halfP p b = ⟨if b then p.addr else hiA p.addr p.len, p.len + 1⟩ := fun b => by unfold halfP; rw [if_pos hc]
  obtain ⟨a, k, ha, hk, rfl, hm⟩ := pfx_nat hp hc.1
  obtain ⟨k, rfl⟩ : ∃ k', k = k' + 1 := ⟨k - 1, by have := hc.2; simp only at this; omega⟩
  obtain ⟨h1, h2⟩ := hi_nat a k ha hk hm
  have hl : (32 : Int) - ((k + 1 : Nat) : Int) + 1 = 32 - (k : Int) := by omega
  have e1 : halfP ⟨(a : Int), 32 - ((k + 1 : Nat) : Int)⟩ true = ⟨(a : Int), 32 - (k : Int)⟩ := by rw [hP]; simp only [if_true, hl]
  have e2 : halfP ⟨(a : Int), 32 - ((k + 1 : Nat) : Int)⟩ false = ⟨((a + 2 ^ k : Nat) : Int), 32 - (k : Int)⟩ := by rw [hP]; simp only [hl, h1]; rfl
  obtain ⟨X, rfl⟩ : ∃ X : Nat, x = X := ⟨x.toNat, by omega⟩
  have hX : X < 4294967296 := by omega
  have hp2 : 2 ^ (k + 1) = 2 * 2 ^ k := by rw [Nat.pow_succ]; omega
  have hpp := Nat.two_pow_pos k
  have m1 : a % 2 ^ k = 0 := by
    have : 2 ^ k ∣ a := Nat.dvd_trans ⟨2, by rw [hp2, Nat.mul_comm]⟩ (Nat.dvd_of_mod_eq_zero hm)
    exact Nat.mod_eq_zero_of_dvd this
  have m2 : (a + 2 ^ k) % 2 ^ k = 0 := by rw [Nat.add_mod_right]; exact m1
  have f1 : (Pfx.mk (a : Int) (32 - (k : Int))).Fits := ⟨by constructor <;> simp only <;> omega, by constructor <;> simp only <;> omega⟩
  have f2 : (Pfx.mk ((a + 2 ^ k : Nat) : Int) (32 - (k : Int))).Fits := ⟨by constructor <;> simp only <;> omega, by constructor <;> simp only <;> omega⟩
  have g1 : (Pfx.mk (a : Int) (32 - (k : Int))).good = true := by rw [good_nat a k ha (by omega)]; exact decide_eq_true m1
  have g2 : (Pfx.mk ((a + 2 ^ k : Nat) : Int) (32 - (k : Int))).good = true := by rw [good_nat _ k h2 (by omega)]; exact decide_eq_true m2
  rw [e1, e2]
  have hs : sortedP [(Pfx.mk (a : Int) (32 - (k : Int))), (Pfx.mk ((a + 2 ^ k : Nat) : Int) (32 - (k : Int)))] := by
    unfold sortedP
    rw [List.pairwise_cons]
    refine ⟨fun q hq => ?_, by simp⟩
    simp only [List.mem_singleton] at hq
    subst hq
    rw [cmpP_lt]
    left
    simp only
    omega
  obtain ⟨o1, o2⟩ := head_of (xs := [(Pfx.mk (a : Int) (32 - (k : Int))), (Pfx.mk ((a + 2 ^ k : Nat) : Int) (32 - (k : Int)))]) (by simp) (by rw [List.all_cons, List.all_cons, g1, g2]; rfl) hs (fun p => Iff.rfl)
  refine ⟨fun b => by cases b <;> simp only [e1, e2] <;> assumption, o1, by rw [o2]; rfl, ?_⟩
  rw [o2]
  simp only [coversP, List.any_cons, List.any_nil, Bool.or_false]
  rw [has_nat a k X ha (by omega) hX, has_nat (a + 2 ^ k) k X h2 (by omega) hX, has_nat a (k + 1) X ha hk hX]
  simp only [decide_eq_true m1, decide_eq_true m2, decide_eq_true hm, Bool.true_and]
  exact halves_nat a k X hm
end Go.Proofs.Ythiodgnklfbmjaa
