/- The reference's items: Find, less, Covers; carrefourlaw03.in. -/
import Derived.Test.YthiodgnklfbmjaaPsRight
namespace Go.Proofs.Ythiodgnklfbmjaa
open Go.RowKit
set_option linter.unusedVariables false
set_option linter.unusedSimpArgs false

def itemR : Rep Pfx := fun _ _ cs p => cs = [.int .u32 p.addr, .int .i64 p.len, .int .i64 0] ∧ p.Fits
theorem itemR_ok : itemR.Ok 3 := by
  refine ⟨?_, ?_, ?_⟩
  · rintro w F cs x ⟨rfl, _⟩
    rfl
  · rintro w F cs x ⟨rfl, _⟩ u hu
    simp at hu
    rcases hu with rfl | rfl | rfl <;> rfl
  · rintro w w' F F' cs x h _ _
    exact h
theorem item_at {w : World} {F : Nat → Prop} {A : Option Addr} {n c : Nat} {xs : List Pfx} (hl : listR 3 itemR w F [.slice A n c] xs) {k : Nat} (hk : k < n) : ∃ a l b off, xs[k]? = some ⟨a, l⟩ ∧ A = some ⟨b, off, none⟩ ∧ F b ∧ (Pfx.mk a l).Fits ∧ w.cell? ⟨b, off + k * 3, none⟩ = some (.int .u32 a) ∧ w.cell? ⟨b, off + k * 3 + 1, none⟩ = some (.int .i64 l) ∧ w.cell? ⟨b, off + k * 3 + 2, none⟩ = some (.int .i64 0) := by
  obtain ⟨x, hx⟩ : ∃ x, xs[k]? = some x := ⟨_, List.getElem?_eq_getElem (by rw [← hl.len.1]; exact hk)⟩
  obtain ⟨b, off, cs, hA, hFb, ⟨rfl, hf⟩, hr⟩ := hl.at_ hx
  obtain ⟨a, l⟩ := x
  exact ⟨a, l, b, off, hx, hA, hFb, hf, hr 0 _ rfl, hr 1 _ rfl, hr 2 _ rfl⟩
theorem memP_take {xs : List Pfx} {k : Nat} {p q : Pfx} (h : xs[k]? = some p) : memP (xs.take (k + 1)) q = (memP (xs.take k) q || (p.addr == q.addr && p.len == q.len)) := by
  unfold memP
  rw [take_snoc h, List.any_append]
  simp
set_option maxHeartbeats 2000000 in
theorem ref_Find (w : World) (F : Nat → Prop) (A : Option Addr) (m c : Nat) (xs : List Pfx) (a n : Int) (hl : listR 3 itemR w F [.slice A m c] xs) (hF : InF F w) :
    Calls Try.prog 19 #[.slice A m c, .int .u32 a, .int .i64 n] w fun e w' => ∃ r : Int, e = .returned (.int .i64 r) ∧ Hid (decide (r < 0) = !memP xs ⟨a, n⟩) ∧ Below w.heap.size w w' := by
  have hm63 : m ≤ 9223372036854775807 := by have := hl.len; unfold maxLen at this; omega
  have HM := Lib.hid hl.len.1
  have Hl := Lib.hid hl
  clear hl
  go_enter Try.func19, Try.ntmps19
  go_wp2_with fail
  go_loopw [11] (fun i wr => ∃ k : Nat, k ≤ m ∧ i = .int .i64 k ∧ Hid (memP (xs.take k) ⟨a, n⟩ = false) ∧ Below w.heap.size w wr) (fun i _ => m - (intOf i).toNat)
  case atStart => exact ⟨0, Nat.zero_le _, rfl, Lib.hid rfl, Below.refl _ _⟩
  case round =>
    obtain ⟨k, hk, rfl, HT, hB⟩ := hrel
    by_cases hlt : k < m
    · obtain ⟨x, l, b, off, hx, rfl, hFb, hf, c1, c2, c3⟩ := item_at Hl.out hlt
      have d1 := (hB.cell (p := ⟨b, off + k * 3, none⟩) (hF b hFb)).trans c1
      have d2 := (hB.cell (p := ⟨b, off + k * 3 + 1, none⟩) (hF b hFb)).trans c2
      have d3 := (hB.cell (p := ⟨b, off + k * 3 + 2, none⟩) (hF b hFb)).trans c3
      have hk0 : (0 : Int) ≤ (k : Int) := by omega
      have hk1 : (k : Int) < (m : Int) := by omega
      have HX := Lib.hid hx
      have HBa := Lib.hid (hB.alloc hB.size (.cells #[.int .u32 x, .int .i64 l, .int .i64 0] 48))
      have hsn : Hid (memP (xs.take (k + 1)) ⟨a, n⟩ = (x == a && l == n)) := Lib.hid (by rw [memP_take hx, HT.out]; rfl)
      clear hx c1 c2 c3
      cases q1 : (x == a)
      · go_wp2_with fail
        go_roundw
        case rel => exact ⟨k + 1, by omega, by go_num, Lib.hid (by rw [hsn.out, q1]; rfl), HBa.out⟩
        case measure => simp [intOf]; omega
      · cases q2 : (l == n)
        · go_wp2_with fail
          go_roundw
          case rel => exact ⟨k + 1, by omega, by go_num, Lib.hid (by rw [hsn.out, q1, q2]; rfl), HBa.out⟩
          case measure => simp [intOf]; omega
        · have hin : Hid (memP xs ⟨a, n⟩ = true) := Lib.hid (memP_iff.2 (by
            have e1 : x = a := by simpa using q1
            have e2 : l = n := by simpa using q2
            rw [← e1, ← e2]
            exact List.mem_of_getElem? HX.out))
          go_wp2_with fail
          go_ret
          exact ⟨_, rfl, Lib.hid (by rw [hin.out]; exact decide_eq_false (by omega)), HBa.out⟩
    · go_wp2_with fail
      go_ret
      refine ⟨_, rfl, Lib.hid ?_, hB⟩
      have h1 := HT.out
      rw [List.take_of_length_le (by have := HM.out; omega)] at h1
      rw [h1]
      rfl
set_option maxHeartbeats 1000000 in
theorem ref_less (a l b m : Int) (w : World) : Calls Try.prog 38 #[.agg #[.int .u32 a, .int .i64 l, .int .i64 0], .agg #[.int .u32 b, .int .i64 m, .int .i64 0]] w fun e w' => e = .returned (.bool (decide (cmpP ⟨a, l⟩ ⟨b, m⟩ < 0))) ∧ Below w.heap.size w w' := by
  have HB : Hid (Below w.heap.size w ((w.alloc (.cells #[.int .u32 a, .int .i64 l, .int .i64 0] 48)).alloc (.cells #[.int .u32 b, .int .i64 m, .int .i64 0] 48))) := Lib.hid (((Below.refl _ _).alloc (Nat.le_refl _) _).alloc (by simp) _)
  by_cases h1 : a < b
  · have E : Hid (decide (cmpP ⟨a, l⟩ ⟨b, m⟩ < 0) = true) := Lib.hid (decide_eq_true (cmpP_lt.2 (.inl h1)))
    have d1 : decide (a < b) = true := decide_eq_true h1
    go_enter Try.func38, Try.ntmps38
    go_wp2_with fail
    go_ret
    exact ⟨ret_bool E.out.symm, HB.out⟩
  have d1 : decide (a < b) = false := decide_eq_false h1
  by_cases h2 : a = b
  · subst h2
    by_cases h3 : l < m
    · have E : Hid (decide (cmpP ⟨a, l⟩ ⟨a, m⟩ < 0) = true) := Lib.hid (decide_eq_true (cmpP_lt.2 (.inr ⟨rfl, h3⟩)))
      have d3 : decide (l < m) = true := decide_eq_true h3
      go_enter Try.func38, Try.ntmps38
      go_wp2_with fail
      go_ret
      exact ⟨ret_bool E.out.symm, HB.out⟩
    · have E : Hid (decide (cmpP ⟨a, l⟩ ⟨a, m⟩ < 0) = false) := Lib.hid (decide_eq_false (by rw [cmpP_lt]; simp only; omega))
      have d3 : decide (l < m) = false := decide_eq_false h3
      go_enter Try.func38, Try.ntmps38
      go_wp2_with fail
      go_ret
      exact ⟨ret_bool E.out.symm, HB.out⟩
  · have E : Hid (decide (cmpP ⟨a, l⟩ ⟨b, m⟩ < 0) = false) := Lib.hid (decide_eq_false (by rw [cmpP_lt]; simp only; omega))
    have d2 : (a == b) = false := by simpa using h2
    go_enter Try.func38, Try.ntmps38
    go_wp2_with fail
    go_ret
    exact ⟨ret_bool E.out.symm, HB.out⟩
set_option maxRecDepth 100000 in
set_option maxHeartbeats 1000000 in
theorem ref_Covers0 (a l : Int) (w : World) (hf : (Pfx.mk a l).Fits) (hg : (Pfx.mk a l).good = true) : Calls Try.prog 37 #[.int .u32 0, .int .i64 0, .int .u32 a, .int .i64 l] w fun e w' => e = .returned (.bool true) ∧ Below w.heap.size w w' := by
  have ha := hf.addr
  simp only at ha
  obtain ⟨x, rfl⟩ : ∃ x : Nat, a = x := ⟨a.toNat, by omega⟩
  have hx : x < 4294967296 := by omega
  have HR := Lib.hid (fun W => ref_Right W x l hx hf.len)
  rw [hg] at HR
  have h0 : hasP ⟨((0 : Nat) : Int), 0⟩ (x : Int) = true := by
    have h1 := has_nat 0 32 x (by omega) (by omega) hx
    have h2 : (32 : Int) - ((32 : Nat) : Int) = 0 := by omega
    rw [h2] at h1
    rw [h1, Nat.zero_mod, Nat.div_eq_of_lt hx]
    rfl
  have HH := Lib.hid (fun W => ref_Has W 0 x 0 (by omega) hx (by omega))
  rw [h0] at HH
  have hl0 : 0 ≤ l := by
    simp only [Pfx.good, Bool.and_eq_true, decide_eq_true_eq] at hg
    exact hg.1.1
  have d1 : decide (0 ≤ l) = true := decide_eq_true hl0
  clear hf hg h0 ha hx
  go_enter Try.func37, Try.ntmps37
  go_wp2_with fail
  refine (HR.out _).mono ?_
  rintro e w1 ⟨rfl, hb1⟩
  have HB1 := Lib.hid hb1
  clear hb1
  go_wp2_with fail
  refine (HH.out _).mono ?_
  rintro e w2 ⟨rfl, hb2⟩
  go_wp2_with fail
  go_ret
  exact ⟨rfl, below_step HB1.out hb2⟩
set_option maxHeartbeats 2000000 in
theorem law_in (w : World) (F : Nat → Prop) (A : Option Addr) (m c : Nat) (xs : List Pfx) (a n : Int) (hl : listR 2 pfxR w F [.slice A m c] xs) (hF : InF F w) :
    Calls Try.prog 21 #[.slice A m c, .agg #[.int .u32 a, .int .i64 n]] w fun e w' => e = .returned (.bool (memP xs ⟨a, n⟩)) ∧ Below w.heap.size w w' := by
  have hm63 : m ≤ 9223372036854775807 := by have := hl.len; unfold maxLen at this; omega
  have HM := Lib.hid hl.len.1
  have Hl := Lib.hid hl
  have hB0 : Below w.heap.size w (w.alloc (.cells #[.int .u32 a, .int .i64 n] 35)) := (Below.refl _ _).alloc (Nat.le_refl _) _
  have HB0 := Lib.hid hB0
  have HK0 := Lib.hid (Blk.new w 35 #[.int .u32 a, .int .i64 n])
  clear hl hB0
  go_enter Try.func21, Try.ntmps21
  go_wp2_with fail
  go_loopw [9] (fun i wr => ∃ k : Nat, k ≤ m ∧ i = .int .i64 k ∧ Hid (memP (xs.take k) ⟨a, n⟩ = false) ∧ Hid (Below w.heap.size w wr ∧ Blk wr w.heap.size 35 #[.int .u32 a, .int .i64 n])) (fun i _ => m - (intOf i).toNat)
  case atStart => exact ⟨0, Nat.zero_le _, rfl, Lib.hid rfl, Lib.hid ⟨HB0.out, HK0.out⟩⟩
  case round =>
    obtain ⟨k, hk, rfl, HT, HS⟩ := hrel
    have hB := HS.out.1
    by_cases hlt : k < m
    · obtain ⟨x, l, b, off, hx, rfl, hFb, hf, c1, c2⟩ := pfx_at Hl.out hlt
      have d1 := (hB.cell (p := ⟨b, off + k * 2, none⟩) (hF b hFb)).trans c1
      have d2 := (hB.cell (p := ⟨b, off + k * 2 + 1, none⟩) (hF b hFb)).trans c2
      have hk0 : (0 : Int) ≤ (k : Int) := by omega
      have hk1 : (k : Int) < (m : Int) := by omega
      have HX := Lib.hid hx
      have hba : Below wr.heap.size wr (wr.alloc (.cells #[.int .u32 x, .int .i64 l] 35)) := (Below.refl _ _).alloc (Nat.le_refl _) _
      have HBa := Lib.hid (And.intro (below_step hB hba) (HS.out.2.below hba HS.out.2.lt))
      have HN := Lib.hid (Blk.new wr 35 #[.int .u32 x, .int .i64 l])
      have hsn : Hid (memP (xs.take (k + 1)) ⟨a, n⟩ = (x == a && l == n)) := Lib.hid (by rw [memP_take hx, HT.out]; rfl)
      clear hx c1 c2 hba hB
      go_upto_region 4 with fail
      refine wp_gen (fun W => (Below w.heap.size w W ∧ Blk W w.heap.size 35 #[.int .u32 a, .int .i64 n]) ∧ Blk W wr.heap.size 35 #[.int .u32 x, .int .i64 l]) ⟨HBa.out, HN.out⟩ ?_
      rintro W ⟨hW, hkx⟩
      have HW := Lib.hid hW
      have z1 := hW.2.cell 0
      have z2 := hW.2.cell 1
      have z3 := hkx.cell 0
      have z4 := hkx.cell 1
      clear hW hkx HBa HN d1 d2
      cases q1 : (x == a)
      · go_wp2_with fail
        go_roundw
        case rel => exact ⟨k + 1, by omega, by go_num, Lib.hid (by rw [hsn.out, q1]; rfl), HW⟩
        case measure => simp [intOf]; omega
      · cases q2 : (l == n)
        · go_wp2_with fail
          go_roundw
          case rel => exact ⟨k + 1, by omega, by go_num, Lib.hid (by rw [hsn.out, q1, q2]; rfl), HW⟩
          case measure => simp [intOf]; omega
        · have hin : Hid (memP xs ⟨a, n⟩ = true) := Lib.hid (memP_iff.2 (by
            have e1 : x = a := by simpa using q1
            have e2 : l = n := by simpa using q2
            rw [← e1, ← e2]
            exact List.mem_of_getElem? HX.out))
          go_wp2_with fail
          go_ret
          exact ⟨ret_bool hin.out.symm, HW.out.1⟩
    · have h1 : Hid (memP xs ⟨a, n⟩ = false) := by
        have h1 := HT.out
        rw [List.take_of_length_le (by have := HM.out; omega)] at h1
        exact Lib.hid h1
      clear hB
      go_wp2_with fail
      go_ret
      exact ⟨ret_bool h1.out.symm, HS.out.1⟩
end Go.Proofs.Ythiodgnklfbmjaa
