/- The library's Clone, Equal, BinarySearchFunc, CompareFunc at prefixes. -/
import Derived.Test.YthiodgnklfbmjaaPsA
namespace Go.Proofs.Ythiodgnklfbmjaa
open Go.RowKit
set_option linter.unusedVariables false

theorem pfx_info : (Try.prog.info? 35).map (fun i => (i.zero, i.size, i.bytes)) = some (some (.agg #[.int .u32 0, .int .i64 0]), 2, 16) := by kernel_rfl

set_option maxHeartbeats 1000000 in
theorem pfx_Clone (w : World) (F : Nat → Prop) (A : Option Addr) (n c : Nat) (xs : List Pfx) (hl : listR 2 pfxR w F [.slice A n c] xs) (hF : InF F w) (hn : n ≤ 1073741824) :
    Calls Try.prog 32 #[.slice A n c] w fun e w' => ∃ v, e = .returned v ∧ ownR 35 2 pfxR w' F w.heap.size v xs ∧ Below w.heap.size w w' := by
  obtain ⟨ic, hic, hc0, hc1, hc2⟩ := info_parts pfx_info
  have q22 : ∀ (w : World) (a : Option Addr) (n c n' c' : Nat), (binOp .eql 22 (.slice a n c) (.slice none n' c')).run Try.prog w = .ok (.bool a.isNone) w := fun w a n c n' c' => Lib.run_eql_slice_nil w _ _ a n c n' c' Try.underlying22
  have hlen := hl.len
  cases A with
  | none =>
    have hy : xs = [] := by
      rcases xs with _ | ⟨y, r⟩
      · rfl
      · obtain ⟨b, off, cs, h, _⟩ := hl.at_ (k := 0) (x := y) rfl
        cases h
    subst hy
    have hn0 : n = 0 := hlen.1
    subst hn0
    clear hl hlen
    go_enter Try.func32, Try.ntmps32
    go_wp2
    go_ret
    exact ⟨_, rfl, ownR.nil, Below.refl _ _⟩
  | some ad =>
    have Hl := Lib.hid hl
    have Hb := Lib.hid ((Below.refl w.heap.size w).alloc (Nat.le_refl _) (.cells #[] 35))
    have h63 : Hid (([] : List Pfx).length + n ≤ 9223372036854775807) := by show _ ≤ _; simp; omega
    have h64 : Hid ((([] : List Pfx).length + n) * 16 ≤ 140737488355328) := by show _ ≤ _; simp; omega
    clear hl hlen
    go_enter Try.func32, Try.ntmps32
    go_wp2_with (at_builtin; refine wpList_pushA _ rfl (.tmp 5) (.tmp 6) 22 rfl pfxR_ok w.heap.size 35 ic _ 16 Try.underlying22 hic hc0 hc1 hc2 rfl (by decide) F _ [] rfl (ownR.made w _ (Nat.le_refl _) hF) (some ad) n c xs rfl ((listR_ok pfxR_ok).below Hl.out Hb.out hF) (hF.below Hb.out) h63.out h64.out Hb.out.size ?_)
    intro v w' hv hg _
    have Hv := Lib.hid hv
    have Hg := Lib.hid (Hb.out.grown hg Hb.out.size fun g he => by cases he; exact Nat.le_refl _)
    clear hv hg
    go_wp2_with fail
    go_ret
    exact ⟨_, rfl, Hv.out, Hg.out⟩

def eqPs : List Pfx → List Pfx → Bool
  | [], [] => true
  | p :: ps, q :: qs => (p.addr == q.addr && p.len == q.len) && eqPs ps qs
  | _, _ => false
theorem eqPs_iff : ∀ {xs ys : List Pfx}, eqPs xs ys = true ↔ xs = ys
  | [], [] => by simp [eqPs]
  | [], q :: qs => by simp [eqPs]
  | p :: ps, [] => by simp [eqPs]
  | ⟨a, l⟩ :: ps, ⟨b, m⟩ :: qs => by
    have ih := eqPs_iff (xs := ps) (ys := qs)
    simp only [eqPs, Bool.and_eq_true, beq_iff_eq, ih, List.cons.injEq, Pfx.mk.injEq]
theorem eqPs_false {xs ys : List Pfx} (h : xs ≠ ys) : eqPs xs ys = false := by
  cases hq : eqPs xs ys
  · rfl
  · exact absurd (eqPs_iff.1 hq) h
/-- a frozen prefix, its cells in every later world -/
theorem pfx_at {w : World} {F : Nat → Prop} {A : Option Addr} {n c : Nat} {xs : List Pfx} (hl : listR 2 pfxR w F [.slice A n c] xs) {k : Nat} (hk : k < n) : ∃ a l b off, xs[k]? = some ⟨a, l⟩ ∧ A = some ⟨b, off, none⟩ ∧ F b ∧ (Pfx.mk a l).Fits ∧ w.cell? ⟨b, off + k * 2, none⟩ = some (.int .u32 a) ∧ w.cell? ⟨b, off + k * 2 + 1, none⟩ = some (.int .i64 l) := by
  obtain ⟨x, hx⟩ : ∃ x, xs[k]? = some x := ⟨_, List.getElem?_eq_getElem (by rw [← hl.len.1]; exact hk)⟩
  obtain ⟨b, off, cs, hA, hFb, ⟨rfl, hf⟩, hr⟩ := hl.at_ hx
  obtain ⟨a, l⟩ := x
  exact ⟨a, l, b, off, hx, hA, hFb, hf, hr 0 _ rfl, hr 1 _ rfl⟩

set_option maxHeartbeats 2000000 in
theorem pfx_Equal (w : World) (F : Nat → Prop) (A B : Option Addr) (n c m d : Nat) (xs ys : List Pfx) (hl : listR 2 pfxR w F [.slice A n c] xs) (hu : listR 2 pfxR w F [.slice B m d] ys) (hF : InF F w) :
    Calls Try.prog 42 #[.slice A n c, .slice B m d] w fun e w' => e = .returned (.bool (eqPs xs ys)) ∧ Below w.heap.size w w' := by
  have hn63 : n ≤ 9223372036854775807 := by have := hl.len; unfold maxLen at this; omega
  have HN := Lib.hid hl.len.1
  have HM := Lib.hid hu.len.1
  have Hl := Lib.hid hl
  have Hu := Lib.hid hu
  clear hl hu
  by_cases hnm : n = m
  · subst hnm
    have hz : ((n : Int) != (n : Int)) = false := by simp
    go_enter Try.func42, Try.ntmps42
    go_wp2_with fail
    go_loopw [13] (fun i wr => ∃ k : Nat, k ≤ n ∧ i = .int .i64 k ∧ Hid (xs.take k = ys.take k) ∧ Below w.heap.size w wr) (fun i _ => n - (intOf i).toNat)
    case atStart => exact ⟨0, Nat.zero_le _, rfl, Lib.hid rfl, Below.refl _ _⟩
    case round =>
      obtain ⟨k, hk, rfl, HT, hB⟩ := hrel
      by_cases hlt : k < n
      · obtain ⟨a, l, b, off, hx, rfl, hFb, hf, c1, c2⟩ := pfx_at Hl.out hlt
        obtain ⟨a', l', b', off', hy, rfl, hFb', hf', c3, c4⟩ := pfx_at Hu.out hlt
        have d1 := (hB.cell (p := ⟨b, off + k * 2, none⟩) (hF b hFb)).trans c1
        have d2 := (hB.cell (p := ⟨b, off + k * 2 + 1, none⟩) (hF b hFb)).trans c2
        have d3 := (hB.cell (p := ⟨b', off' + k * 2, none⟩) (hF b' hFb')).trans c3
        have d4 := (hB.cell (p := ⟨b', off' + k * 2 + 1, none⟩) (hF b' hFb')).trans c4
        have hk0 : (0 : Int) ≤ (k : Int) := by omega
        have hk1 : (k : Int) < (n : Int) := by omega
        have Hx := Lib.hid hx
        have Hy := Lib.hid hy
        clear hx hy c1 c2 c3 c4 hf hf'
        cases h1 : (a == a')
        · have hne : Hid (xs ≠ ys) := fun e => by
            have h2 := Hx.out
            rw [e, Hy.out] at h2
            cases h2
            simp at h1
          go_wp2_with fail
          go_quiet (fail)
          go_wp2_with fail
          go_ret
          exact ⟨ret_bool (eqPs_false hne.out).symm, below_dn2 hB _⟩
        · cases h3 : (l == l')
          · have hne : Hid (xs ≠ ys) := fun e => by
              have h2 := Hx.out
              rw [e, Hy.out] at h2
              cases h2
              simp at h3
            go_wp2_with fail
            go_quiet (fail)
            go_wp2_with fail
            go_ret
            exact ⟨ret_bool (eqPs_false hne.out).symm, below_dn2 hB _⟩
          · have e1 : a = a' := by simpa using h1
            have e2 : l = l' := by simpa using h3
            subst e1
            subst e2
            clear h1 h3
            go_wp2_with fail
            go_quiet (fail)
            go_wp2_with fail
            go_roundw
            case rel => exact ⟨k + 1, by omega, by go_num, Lib.hid (by rw [take_snoc Hx.out, take_snoc Hy.out, HT.out]), below_dn2 hB _⟩
            case measure => simp [intOf]; omega
      · go_wp2_with fail
        go_ret
        refine ⟨ret_bool ?_, hB⟩
        have h1 := HT.out
        have h2 := HN.out
        have h3 := HM.out
        rw [List.take_of_length_le (by omega), List.take_of_length_le (by omega)] at h1
        exact (eqPs_iff.2 h1).symm
  · have hz : ((n : Int) != (m : Int)) = true := by rw [bne_iff_ne]; omega
    have hne : Hid (xs ≠ ys) := fun e => by
      have h2 := HN.out
      have h3 := HM.out
      rw [e] at h2
      omega
    clear hnm
    go_enter Try.func42, Try.ntmps42
    go_wp2_with fail
    go_ret
    exact ⟨ret_bool (eqPs_false hne.out).symm, Below.refl _ _⟩
end Go.Proofs.Ythiodgnklfbmjaa
