/- The reference's Right and Has. -/
import Derived.Test.YthiodgnklfbmjaaPsBits
namespace Go.Proofs.Ythiodgnklfbmjaa
open Go.RowKit
set_option linter.unusedVariables false
set_option linter.unusedSimpArgs false

theorem int_at {w : World} {F : Nat → Prop} {A : Option Addr} {n c : Nat} {xs : List Int} (hl : listR 1 (intR .i64) w F [.slice A n c] xs) {k : Nat} (hk : k < n) : ∃ x b off, xs[k]? = some x ∧ A = some ⟨b, off, none⟩ ∧ F b ∧ w.cell? ⟨b, off + k, none⟩ = some (.int .i64 x) := by
  obtain ⟨x, hx⟩ : ∃ x, xs[k]? = some x := ⟨_, List.getElem?_eq_getElem (by rw [← hl.len.1]; exact hk)⟩
  obtain ⟨b, off, cs, hA, hFb, ⟨rfl, hb⟩, hr⟩ := hl.at_ hx
  exact ⟨x, b, off, hx, hA, hFb, by simpa using hr 0 _ rfl⟩
theorem bits_from {w : World} {F : Nat → Prop} {b off c N : Nat} {xs : List Int} (hl : listR 1 (intR .i64) w F [.slice (some ⟨b, off, none⟩) 32 c] xs) (hN : N ≤ 32) : ∃ A', (∀ w', (Instr.slice 72 (.slice (some ⟨b, off, none⟩) 32 c) (some (.int .i64 (N : Int))) none none).run Try.prog w' = .ok (.slice A' (32 - N) (c - N)) w') ∧ listR 1 (intR .i64) w F [.slice A' (32 - N) (c - N)] (xs.drop N) := by
  obtain ⟨h1, h2, h3⟩ := hl.len
  refine ⟨_, fun w' => run_from b off 32 N c hN h2 (by unfold maxLen at h3; omega) w', ?_⟩
  by_cases hc : c = N
  · rw [if_pos hc]
    have h0 : xs.drop N = [] := List.drop_of_length_le (by omega)
    rw [h0]
    exact ⟨_, _, by rw [show 32 - N = ([] : List Int).length by simp; omega], by simp, by omega, fun k x hx => by simp at hx⟩
  · rw [if_neg hc]
    have hp := hl.part (i := N) (j := 32) hN (Nat.le_refl _)
    rw [List.take_of_length_le (by omega), Nat.mul_one] at hp
    exact hp
theorem mod_bits (a : Nat) : ∀ k, (∀ i, i < k → a / 2 ^ i % 2 = 0) ↔ a % 2 ^ k = 0
  | 0 => by simp [Nat.mod_one]
  | k + 1 => by
    have ih := mod_bits a k
    have hm : a % 2 ^ (k + 1) = a % 2 ^ k + 2 ^ k * (a / 2 ^ k % 2) := by rw [Nat.pow_succ, Nat.mod_mul]
    have hp := Nat.two_pow_pos k
    constructor
    · intro h
      rw [hm, ih.1 fun i hi => h i (by omega), h k (by omega)]
      rfl
    · intro h i hi
      rw [hm] at h
      have h1 : a % 2 ^ k = 0 := by omega
      have h2 : 2 ^ k * (a / 2 ^ k % 2) = 0 := by omega
      rcases Nat.lt_or_ge i k with h3 | h3
      · exact ih.2 h1 i h3
      · obtain rfl : i = k := by omega
        rcases Nat.mul_eq_zero.1 h2 with h4 | h4 <;> omega
theorem div_bits (u v : Nat) : ∀ n, u < 2 ^ n → v < 2 ^ n → (∀ i, i < n → u / 2 ^ i % 2 = v / 2 ^ i % 2) → u = v := by
  intro n hu hv h
  apply Nat.eq_of_testBit_eq
  intro i
  rw [Nat.testBit_eq_decide_div_mod_eq, Nat.testBit_eq_decide_div_mod_eq]
  rcases Nat.lt_or_ge i n with h1 | h1
  · rw [h i h1]
  · have hle := Nat.pow_le_pow_right (n := 2) (by omega) h1
    rw [Nat.div_eq_of_lt (by omega), Nat.div_eq_of_lt (by omega)]
theorem right_nat {a N : Nat} (ha : a < 4294967296) (hN : N ≤ 32) : (Pfx.mk (a : Int) (N : Int)).good = ((bits0 a 32).drop N).all (· == 0) := by
  have h1 := good_nat a (32 - N) ha (by omega)
  have h2 : (32 : Int) - ((32 - N : Nat) : Int) = (N : Int) := by omega
  rw [h2] at h1
  rw [h1, Bool.eq_iff_iff, decide_eq_true_eq, List.all_eq_true, ← mod_bits]
  constructor
  · intro h x hx
    obtain ⟨j, hj⟩ := List.getElem?_of_mem hx
    rw [List.getElem?_drop] at hj
    have hlt : N + j < 32 := by have := (List.getElem?_eq_some_iff.1 hj).1; rw [bits0_len] at this; exact this
    rw [bits0_get hlt] at hj
    have := h (32 - 1 - (N + j)) (by omega)
    rw [this] at hj
    cases hj
    rfl
  · intro h i hi
    have h3 : ((bits0 a 32).drop N)[31 - i - N]? = some ((a / 2 ^ (32 - 1 - (N + (31 - i - N))) % 2 : Nat) : Int) := by
      rw [List.getElem?_drop, bits0_get (by omega)]
    have h4 := h _ (List.mem_of_getElem? h3)
    rw [beq_iff_eq] at h4
    have e : 32 - 1 - (N + (31 - i - N)) = i := by omega
    rw [e] at h4
    omega
set_option maxRecDepth 100000 in
set_option maxHeartbeats 2000000 in
theorem ref_Right (w : World) (a : Nat) (n : Int) (ha : a < 4294967296) (hn : -9223372036854775808 ≤ n ∧ n ≤ 9223372036854775807) : Calls Try.prog 17 #[.int .u32 (a : Int), .int .i64 n] w fun e w' => e = .returned (.bool (Pfx.mk (a : Int) n).good) ∧ Below w.heap.size w w' := by
  by_cases h1 : n < 0
  · have E : Hid ((Pfx.mk (a : Int) n).good = false) := by
      show _ = _
      have : decide (0 ≤ n) = false := decide_eq_false (by omega)
      simp [Pfx.good, this]
    have d1 : decide (n < 0) = true := decide_eq_true h1
    go_enter Try.func17, Try.ntmps17
    go_wp2_with fail
    go_ret
    exact ⟨ret_bool E.out.symm, Below.refl _ _⟩
  have d1 : decide (n < 0) = false := decide_eq_false h1
  by_cases h2 : 32 < n
  · have E : Hid ((Pfx.mk (a : Int) n).good = false) := by
      show _ = _
      have : decide (n ≤ 32) = false := decide_eq_false (by omega)
      simp [Pfx.good, this]
    have d2 : decide (n > 32) = true := decide_eq_true h2
    go_enter Try.func17, Try.ntmps17
    go_wp2_with fail
    go_ret
    exact ⟨ret_bool E.out.symm, Below.refl _ _⟩
  have d2 : decide (n > 32) = false := decide_eq_false h2
  obtain ⟨N, rfl⟩ : ∃ N : Nat, n = N := ⟨n.toNat, by omega⟩
  have hN : N ≤ 32 := by omega
  have E := Lib.hid (right_nat ha hN)
  have HB := Lib.hid (ref_Bits w NoF a ha (noF_in w))
  clear hn h1 h2
  go_enter Try.func17, Try.ntmps17
  go_wp2_with fail
  refine HB.out.mono ?_
  rintro e w1 ⟨b, off, c, F1, rfl, hg, hl⟩
  obtain ⟨A', hrun, hl'⟩ := bits_from hl hN
  have HL := Lib.hid hl'
  have HF := Lib.hid hg.lt
  have HW := Lib.hid hg.below
  clear hg hl hl' HB
  obtain ⟨R, hR⟩ : ∃ R, R = (bits0 a 32).drop N := ⟨_, rfl⟩
  rw [← hR] at HL E
  clear hR
  have hm : 32 - N ≤ 9223372036854775807 := by omega
  obtain ⟨M, hM⟩ : ∃ M, M = 32 - N := ⟨_, rfl⟩
  rw [← hM] at HL hrun hm
  clear hM
  go_wp2_with fail
  go_loopw [18] (fun i wr => ∃ k : Nat, k ≤ M ∧ i = .int .i64 k ∧ Hid ((R.take k).all (· == 0) = true) ∧ Below w1.heap.size w1 wr) (fun i _ => M - (intOf i).toNat)
  case atStart => exact ⟨0, Nat.zero_le _, rfl, Lib.hid rfl, Below.refl _ _⟩
  case round =>
    obtain ⟨k, hk, rfl, HT, hB⟩ := hrel
    by_cases hlt : k < M
    · obtain ⟨x, b', off', hx, rfl, hFb, c1⟩ := int_at HL.out hlt
      have d3 := (hB.cell (p := ⟨b', off' + k, none⟩) (HF.out b' hFb)).trans c1
      have hk0 : (0 : Int) ≤ (k : Int) := by omega
      have hk1 : (k : Int) < (M : Int) := by omega
      have HX := Lib.hid hx
      clear hx c1
      cases hq : (x == 0)
      · have hq2 : (x != 0) = true := by simp only [bne, hq]; rfl
        have E2 : Hid ((Pfx.mk (a : Int) (N : Int)).good = false) := by
          show _ = _
          rw [E.out]
          cases hall : R.all (· == 0)
          · rfl
          · have := List.all_eq_true.1 hall x (List.mem_of_getElem? HX.out)
            rw [hq] at this
            cases this
        go_wp2_with fail
        go_ret
        exact ⟨ret_bool E2.out.symm, below_step HW.out hB⟩
      · have hq2 : (x != 0) = false := by simp only [bne, hq]; rfl
        go_wp2_with fail
        go_roundw
        case rel => exact ⟨k + 1, by omega, by go_num, Lib.hid (all_take HX.out HT.out hq), hB⟩
        case measure => simp [intOf]; omega
    · have E2 : Hid ((Pfx.mk (a : Int) (N : Int)).good = true) := by
        show _ = _
        rw [E.out]
        exact all_whole (by have := HL.out.len.1; omega) HT.out
      go_wp2_with fail
      go_ret
      exact ⟨ret_bool E2.out.symm, below_step HW.out hB⟩
/-- an address lies in a prefix just if its first bits are the prefix's -/
theorem has_bits {a x N : Nat} (ha : a < 4294967296) (hx : x < 4294967296) (hN : N ≤ 32) (hg : (Pfx.mk (a : Int) (N : Int)).good = true) : hasP ⟨(a : Int), (N : Int)⟩ (x : Int) = true ↔ ∀ i, i < N → (bits0 a 32)[i]? = (bits0 x 32)[i]? := by
  have h1 := good_nat a (32 - N) ha (by omega)
  have h3 := has_nat a (32 - N) x ha (by omega) hx
  have h2 : (32 : Int) - ((32 - N : Nat) : Int) = (N : Int) := by omega
  rw [h2] at h1 h3
  rw [h1, decide_eq_true_eq] at hg
  rw [h3, decide_eq_true hg, Bool.true_and, decide_eq_true_eq]
  have hpp := Nat.two_pow_pos (32 - N)
  have hda := Nat.div_add_mod a (2 ^ (32 - N))
  rw [hg, Nat.add_zero] at hda
  have hpow : 2 ^ (32 - N) * 2 ^ N = 4294967296 := by rw [← Nat.pow_add, show 32 - N + N = 32 by omega]
  have hu : a / 2 ^ (32 - N) < 2 ^ N := by rw [Nat.div_lt_iff_lt_mul hpp, Nat.mul_comm, hpow]; exact ha
  have hv : x / 2 ^ (32 - N) < 2 ^ N := by rw [Nat.div_lt_iff_lt_mul hpp, Nat.mul_comm, hpow]; exact hx
  have key : ∀ y i, i < N → (bits0 y 32)[N - 1 - i]? = some ((y / 2 ^ (32 - N) / 2 ^ i % 2 : Nat) : Int) := fun y i hi => by
    rw [bits0_get (by omega), Nat.div_div_eq_div_mul, ← Nat.pow_add, show 32 - 1 - (N - 1 - i) = 32 - N + i by omega]
  constructor
  · intro h
    have e : a / 2 ^ (32 - N) = x / 2 ^ (32 - N) := Nat.eq_of_mul_eq_mul_left hpp (hda.trans h.symm)
    intro i hi
    have k1 := key a (N - 1 - i) (by omega)
    have k2 := key x (N - 1 - i) (by omega)
    rw [show N - 1 - (N - 1 - i) = i by omega] at k1 k2
    rw [k1, k2, e]
  · intro h
    have e : a / 2 ^ (32 - N) = x / 2 ^ (32 - N) := div_bits _ _ N hu hv fun i hi => by
      have k1 := key a i hi
      have k2 := key x i hi
      rw [h _ (by omega), k2] at k1
      have := Option.some.inj k1
      omega
    rw [← e]
    exact hda
set_option maxRecDepth 100000 in
set_option maxHeartbeats 2000000 in
theorem ref_Has (w : World) (a x : Nat) (n : Int) (ha : a < 4294967296) (hx : x < 4294967296) (hn : -9223372036854775808 ≤ n ∧ n ≤ 9223372036854775807) : Calls Try.prog 18 #[.int .u32 (a : Int), .int .i64 n, .int .u32 (x : Int)] w fun e w' => e = .returned (.bool (hasP ⟨(a : Int), n⟩ (x : Int))) ∧ Below w.heap.size w w' := by
  have hR := ref_Right w a n ha hn
  obtain ⟨g, hg⟩ : ∃ g, g = (Pfx.mk (a : Int) n).good := ⟨_, rfl⟩
  rw [← hg] at hR
  have HR := Lib.hid hR
  cases g
  · have E : Hid (hasP ⟨(a : Int), n⟩ (x : Int) = false) := by show _ = _; unfold hasP; rw [← hg]; rfl
    clear hR hg
    go_enter Try.func18, Try.ntmps18
    go_wp2_with fail
    refine HR.out.mono ?_
    rintro e w1 ⟨rfl, hb1⟩
    go_wp2_with fail
    go_ret
    exact ⟨ret_bool E.out.symm, hb1⟩
  · have hn2 : 0 ≤ n ∧ n ≤ 32 := by
      have h := hg.symm
      simp only [Pfx.good, Bool.and_eq_true, decide_eq_true_eq] at h
      exact h.1
    obtain ⟨N, rfl⟩ : ∃ N : Nat, n = N := ⟨n.toNat, by omega⟩
    have hN : N ≤ 32 := by omega
    have E := Lib.hid (has_bits ha hx hN hg.symm)
    clear hR hg hn hn2
    go_enter Try.func18, Try.ntmps18
    go_wp2_with fail
    refine HR.out.mono ?_
    rintro e w1 ⟨rfl, hb1⟩
    have HW1 := Lib.hid hb1
    clear hb1
    go_wp2_with fail
    refine (ref_Bits w1 NoF a ha (noF_in w1)).mono ?_
    rintro e w2 ⟨b2, o2, c2, F2, rfl, hg2, hl2⟩
    have HG2 := Lib.hid hg2
    have HL2 := Lib.hid hl2
    clear hg2 hl2
    go_wp2_with fail
    refine (ref_Bits w2 F2 x hx HG2.out.lt).mono ?_
    rintro e w3 ⟨b3, o3, c3, F3, rfl, hg3, hl3⟩
    have HL2' := Lib.hid ((listR_ok (intR_ok .i64)).grew HL2.out hg3 HG2.out.lt)
    have HW3 := Lib.hid (below_step (below_step HW1.out HG2.out.below) hg3.below)
    have HL3 := Lib.hid hl3
    have HF3 := Lib.hid hg3.lt
    clear hg3 hl3 HL2 HG2
    go_wp2_with fail
    go_loopw [9] (fun i wr => ∃ k : Nat, k ≤ N ∧ i = .int .i64 k ∧ Hid (∀ i, i < k → (bits0 a 32)[i]? = (bits0 x 32)[i]?) ∧ Below w3.heap.size w3 wr) (fun i _ => N - (intOf i).toNat)
    case atStart => exact ⟨0, Nat.zero_le _, rfl, Lib.hid (fun i hi => by omega), Below.refl _ _⟩
    case round =>
      obtain ⟨k, hk, rfl, HT, hB⟩ := hrel
      by_cases hlt : k < N
      · obtain ⟨p, b', off', hp, he, hFb, c1⟩ := int_at HL2'.out (k := k) (by omega)
        simp only [Option.some.injEq, Addr.mk.injEq] at he
        obtain ⟨rfl, rfl, _⟩ := he
        obtain ⟨q, b', off', hq, he, hFb', c2⟩ := int_at HL3.out (k := k) (by omega)
        simp only [Option.some.injEq, Addr.mk.injEq] at he
        obtain ⟨rfl, rfl, _⟩ := he
        have d1 := (hB.cell (p := ⟨b2, o2 + k, none⟩) (HF3.out _ hFb)).trans c1
        have d2 := (hB.cell (p := ⟨b3, o3 + k, none⟩) (HF3.out _ hFb')).trans c2
        have hk0 : (0 : Int) ≤ (k : Int) := by omega
        have hk1 : (k : Int) < (32 : Int) := by omega
        have hk2 : k < 32 := by omega
        have HP := Lib.hid hp
        have HQ := Lib.hid hq
        clear hp hq c1 c2
        cases hpq : (p == q)
        · have hpq2 : (p != q) = true := by simp only [bne, hpq]; rfl
          have E2 : Hid (hasP ⟨(a : Int), (N : Int)⟩ (x : Int) = false) := by
            show _ = _
            cases hh : hasP ⟨(a : Int), (N : Int)⟩ (x : Int)
            · rfl
            · have := E.out.1 hh k hlt
              rw [HP.out, HQ.out] at this
              cases this
              simp at hpq
          go_wp2_with fail
          go_quiet (fail)
          go_wp2_with fail
          go_ret
          exact ⟨ret_bool E2.out.symm, below_step HW3.out (below_dn2 hB _)⟩
        · have hpq2 : (p != q) = false := by simp only [bne, hpq]; rfl
          have HN : Hid (∀ i, i < k + 1 → (bits0 a 32)[i]? = (bits0 x 32)[i]?) := Lib.hid fun i hi => by
            rcases Nat.lt_or_ge i k with h | h
            · exact HT.out i h
            · obtain rfl : i = k := by omega
              rw [HP.out, HQ.out, show p = q by simpa using hpq]
          go_wp2_with fail
          go_quiet (fail)
          go_wp2_with fail
          go_roundw
          case rel => exact ⟨k + 1, by omega, by go_num, HN, below_dn2 hB _⟩
          case measure => simp [intOf]; omega
      · have E2 : Hid (hasP ⟨(a : Int), (N : Int)⟩ (x : Int) = true) := Lib.hid (E.out.2 fun i hi => HT.out i (by omega))
        go_wp2_with fail
        go_ret
        exact ⟨ret_bool E2.out.symm, below_step HW3.out hB⟩
end Go.Proofs.Ythiodgnklfbmjaa
