/- The library's BinarySearchFunc and CompareFunc at prefixes and Prefix.Cmp; Set's Has, Len, List, Same, Cmp. -/
import Derived.Test.YthiodgnklfbmjaaPsB
namespace Go.Proofs.Ythiodgnklfbmjaa
open Go.RowKit
set_option linter.unusedVariables false

theorem ip_CmpB (a l b m : Int) (w : World) (hp : (Pfx.mk a l).Fits) (hq : (Pfx.mk b m).Fits) :
    Calls Try.prog 13 #[.agg #[.int .u32 a, .int .i64 l], .agg #[.int .u32 b, .int .i64 m]] w fun e w' => e = .returned (.int .i64 (cmpP ⟨a, l⟩ ⟨b, m⟩)) ∧ Below w.heap.size w w' :=
  (ip_Cmp ⟨a, l⟩ ⟨b, m⟩ w hp hq).mono fun _ _ ⟨he, hw⟩ => ⟨he, by rw [hw]; exact ((Below.refl _ _).alloc (Nat.le_refl _) _).alloc (by simp) _⟩

theorem ret2_bool {v : Value} {a b : Bool} (h : a = b) : Ending.returned (.tuple #[v, .bool a]) = .returned (.tuple #[v, .bool b]) := by rw [h]
def sortedP (xs : List Pfx) : Prop := xs.Pairwise fun p q => cmpP p q < 0
def memP (xs : List Pfx) (p : Pfx) : Bool := xs.any fun q => q.addr == p.addr && q.len == p.len
theorem memP_iff {xs : List Pfx} {p : Pfx} : memP xs p = true ↔ p ∈ xs := by
  unfold memP
  rw [List.any_eq_true]
  constructor
  · rintro ⟨q, hq, h⟩
    obtain ⟨a, l⟩ := p
    obtain ⟨b, m⟩ := q
    simp at h
    obtain ⟨rfl, rfl⟩ := h
    exact hq
  · intro h
    exact ⟨p, h, by simp⟩
theorem cmpP_lt {p q : Pfx} : cmpP p q < 0 ↔ p.addr < q.addr ∨ (p.addr = q.addr ∧ p.len < q.len) := by
  unfold cmpP
  split
  · rename_i h; simp [h]
  · rename_i h
    split <;> simp [h]
theorem cmpP_zero {p q : Pfx} : cmpP p q = 0 ↔ p = q := by
  obtain ⟨a, l⟩ := p
  obtain ⟨b, m⟩ := q
  unfold cmpP
  simp only [Pfx.mk.injEq]
  split
  · rename_i h
    constructor
    · intro h2; omega
    · intro h2; omega
  · split
    · rename_i h; simp [h]
    · rename_i h; simp [h]

set_option maxHeartbeats 2000000 in
theorem pfx_Search (w : World) (F : Nat → Prop) (A : Option Addr) (n c : Nat) (xs : List Pfx) (a l : Int) (hl : listR 2 pfxR w F [.slice A n c] xs) (hF : InF F w) (hs : sortedP xs) (hp : (Pfx.mk a l).Fits) (hn : n ≤ 1073741824) :
    Calls Try.prog 33 #[.slice A n c, .agg #[.int .u32 a, .int .i64 l], .func (.func 13) #[] #[]] w fun e w' => ∃ i : Int, e = .returned (.tuple #[.int .i64 i, .bool (memP xs ⟨a, l⟩)]) ∧ Below w.heap.size w w' := by
  have HN := Lib.hid hl.len.1
  have Hl := Lib.hid hl
  have Hs := Lib.hid hs
  clear hl hs
  go_enter Try.func33, Try.ntmps33
  go_wp2_with fail
  go_loopw [9, 10] (fun i j wr => ∃ p q : Nat, p ≤ q ∧ q ≤ n ∧ i = .int .i64 p ∧ j = .int .i64 q ∧ Hid ((∀ t x, xs[t]? = some x → t < p → cmpP x ⟨a, l⟩ < 0) ∧ ∀ t x, xs[t]? = some x → q ≤ t → 0 ≤ cmpP x ⟨a, l⟩) ∧ Blk wr w.heap.size 35 #[.int .u32 a, .int .i64 l] ∧ Below w.heap.size w wr) (fun i j _ => (intOf j - intOf i).toNat)
  case atStart => exact ⟨0, n, Nat.zero_le _, Nat.le_refl _, rfl, rfl, Lib.hid ⟨fun t x _ h => by omega, fun t x h h2 => by have := (List.getElem?_eq_some_iff.1 h).1; have := HN.out; omega⟩, Blk.new _ _ _, (Below.refl _ _).alloc (Nat.le_refl _) _⟩
  case round =>
    obtain ⟨p, q, hpq, hq, rfl, rfl, HI, hblk, hB⟩ := hrel
    by_cases hlt : p < q
    · have hm : (p + q) / 2 < n := by omega
      obtain ⟨a', l', b, off, hx, rfl, hFb, hf, c1, c2⟩ := pfx_at Hl.out hm
      obtain ⟨m, hme⟩ : ∃ m, m = (p + q) / 2 := ⟨_, rfl⟩
      rw [← hme] at hm hx c1 c2
      have e1 : ((p : Int) + (q : Int)) / 2 = (m : Int) := by omega
      have hpm : p ≤ m := by omega
      have hmq : m < q := by omega
      have hbl := hF b hFb
      have r1 : ∀ w', Below wr.heap.size wr w' → w'.cell? ⟨b, off + m * 2, none⟩ = some (.int .u32 a') := fun w' h => ((below_step hB h).cell (p := ⟨b, _, none⟩) hbl).trans c1
      have r2 : ∀ w', Below wr.heap.size wr w' → w'.cell? ⟨b, off + m * 2 + 1, none⟩ = some (.int .i64 l') := fun w' h => ((below_step hB h).cell (p := ⟨b, _, none⟩) hbl).trans c2
      have r3 : ∀ w', Below wr.heap.size wr w' → w'.cell? ⟨w.heap.size, 0, none⟩ = some (.int .u32 a) := fun w' h => (hblk.below h hblk.lt).cell 0
      have r4 : ∀ w', Below wr.heap.size wr w' → w'.cell? ⟨w.heap.size, 1, none⟩ = some (.int .i64 l) := fun w' h => (hblk.below h hblk.lt).cell 1
      have E1 := Lib.hid e1
      have Hx := Lib.hid hx
      have Hf := Lib.hid hf
      have hm0 : (0 : Int) ≤ (m : Int) := by omega
      have hm1 : (m : Int) < (n : Int) := by omega
      have Hblk := Lib.hid hblk
      clear hme e1 hx hf c1 c2 hblk
      go_wp2_with fail
      rw [E1.out]
      obtain ⟨z, hz⟩ : ∃ z, z = cmpP ⟨a', l'⟩ ⟨a, l⟩ := ⟨_, rfl⟩
      have hc := fun W => ip_CmpB a' l' a l W Hf.out hp
      rw [← hz] at hc
      have Hc := Lib.hid hc
      have Hz := Lib.hid hz
      clear hc hz
      by_cases hzl : z < 0
      · have hzd : decide (z < 0) = true := decide_eq_true hzl
        have Hzl := Lib.hid hzl
        clear hzl
        go_region_held3 (fun w' => Below wr.heap.size wr w') (first | (with_reducible exact below_step (by assumption) hb1') | (repeat' (first | (with_reducible exact Below.refl _ _) | (with_reducible assumption) | (with_reducible exact Below.size (by assumption)) | (with_reducible refine Below.drew ?_))))
          (first | (go_at_call 13; (with_reducible refine (Hc.out _).mono ?_); rintro e w1 ⟨rfl, hb1'⟩; have hq : Below wr.heap.size wr w1 := below_step (by assumption) hb1') | fail)
        go_wp2_with fail
        go_roundw
        case rel => exact ⟨m + 1, q, by omega, by omega, by go_num, rfl, Lib.hid ⟨fun t x ht hlt => by
          have h1 : cmpP ⟨a', l'⟩ ⟨a, l⟩ < 0 := by rw [← Hz.out]; exact Hzl.out
          by_cases htm : t = m
          · subst htm
            have h2 := Hx.out
            rw [ht] at h2
            cases h2
            exact h1
          · obtain ⟨h3, h4⟩ := List.getElem?_eq_some_iff.1 ht
            obtain ⟨h5, h6⟩ := List.getElem?_eq_some_iff.1 Hx.out
            have h7 := List.pairwise_iff_getElem.1 Hs.out t m h3 h5 (by omega)
            rw [h4, h6] at h7
            rw [cmpP_lt] at *
            omega, HI.out.2⟩, Hblk.out.below hq Hblk.out.lt, below_step hB hq⟩
        case measure => simp [intOf]; omega
      · have hzd : decide (z < 0) = false := decide_eq_false hzl
        have Hzl := Lib.hid hzl
        clear hzl
        go_region_held3 (fun w' => Below wr.heap.size wr w') (first | (with_reducible exact below_step (by assumption) hb1') | (repeat' (first | (with_reducible exact Below.refl _ _) | (with_reducible assumption) | (with_reducible exact Below.size (by assumption)) | (with_reducible refine Below.drew ?_))))
          (first | (go_at_call 13; (with_reducible refine (Hc.out _).mono ?_); rintro e w1 ⟨rfl, hb1'⟩; have hq : Below wr.heap.size wr w1 := below_step (by assumption) hb1') | fail)
        go_wp2_with fail
        go_roundw
        case rel => exact ⟨p, m, by omega, by omega, rfl, rfl, Lib.hid ⟨HI.out.1, fun t x ht hle => by
          have h1 : 0 ≤ cmpP ⟨a', l'⟩ ⟨a, l⟩ := by rw [← Hz.out]; have := Hzl.out; omega
          by_cases htm : t = m
          · subst htm
            have h2 := Hx.out
            rw [ht] at h2
            cases h2
            exact h1
          · obtain ⟨h3, h4⟩ := List.getElem?_eq_some_iff.1 ht
            obtain ⟨h5, h6⟩ := List.getElem?_eq_some_iff.1 Hx.out
            have h7 := List.pairwise_iff_getElem.1 Hs.out m t h5 h3 (by omega)
            rw [h4, h6] at h7
            have h8 : ¬ cmpP ⟨a', l'⟩ ⟨a, l⟩ < 0 := by omega
            have h9 : ¬ cmpP x ⟨a, l⟩ < 0 := by rw [cmpP_lt] at *; omega
            omega⟩, Hblk.out.below hq Hblk.out.lt, below_step hB hq⟩
        case measure => simp [intOf]; omega
    · obtain rfl : p = q := by omega
      by_cases hpn : p < n
      · obtain ⟨a', l', b, off, hx, rfl, hFb, hf, c1, c2⟩ := pfx_at Hl.out hpn
        have hbl := hF b hFb
        have r1 : ∀ w', Below wr.heap.size wr w' → w'.cell? ⟨b, off + p * 2, none⟩ = some (.int .u32 a') := fun w' h => ((below_step hB h).cell (p := ⟨b, _, none⟩) hbl).trans c1
        have r2 : ∀ w', Below wr.heap.size wr w' → w'.cell? ⟨b, off + p * 2 + 1, none⟩ = some (.int .i64 l') := fun w' h => ((below_step hB h).cell (p := ⟨b, _, none⟩) hbl).trans c2
        have r3 : ∀ w', Below wr.heap.size wr w' → w'.cell? ⟨w.heap.size, 0, none⟩ = some (.int .u32 a) := fun w' h => (hblk.below h hblk.lt).cell 0
        have r4 : ∀ w', Below wr.heap.size wr w' → w'.cell? ⟨w.heap.size, 1, none⟩ = some (.int .i64 l) := fun w' h => (hblk.below h hblk.lt).cell 1
        have hp0 : (0 : Int) ≤ (p : Int) := by omega
        have hp1 : (p : Int) < (n : Int) := by omega
        have hpd : decide (p < n) = true := decide_eq_true hpn
        obtain ⟨z, hz⟩ : ∃ z, z = cmpP ⟨a', l'⟩ ⟨a, l⟩ := ⟨_, rfl⟩
        have hc := fun W => ip_CmpB a' l' a l W hf hp
        rw [← hz] at hc
        have Hc := Lib.hid hc
        have hfin : memP xs ⟨a, l⟩ = (z == 0) := by
          cases hzz : (z == 0)
          · cases hmm : memP xs ⟨a, l⟩
            · rfl
            · obtain ⟨t, ht, hte⟩ := List.mem_iff_getElem.1 (memP_iff.1 hmm)
              have hxt := List.getElem?_eq_getElem ht
              have h0 : cmpP xs[t] ⟨a, l⟩ = 0 := cmpP_zero.2 hte
              have hpt : p ≤ t := by
                rcases Nat.lt_or_ge t p with h | h
                · have := HI.out.1 t _ hxt h; omega
                · exact h
              by_cases htp : t = p
              · subst htp
                rw [hxt] at hx
                have h9 := Option.some.inj hx
                rw [h9, ← hz] at h0
                rw [h0] at hzz
                cases hzz
              · obtain ⟨h5, h6⟩ := List.getElem?_eq_some_iff.1 hx
                have h7 := List.pairwise_iff_getElem.1 Hs.out p t h5 ht (by omega)
                rw [h6, hte] at h7
                have := HI.out.2 p _ hx (Nat.le_refl _)
                omega
          · have h0 : z = 0 := by simpa using hzz
            rw [hz, cmpP_zero] at h0
            exact memP_iff.2 (h0 ▸ List.mem_of_getElem? hx)
        have Hfin := Lib.hid hfin
        have Hz := Lib.hid hz
        clear hz hc hx hf c1 c2 hblk hfin
        go_wp2_with fail
        go_region_held3 (fun w' => Below wr.heap.size wr w') (first | (with_reducible exact below_step (by assumption) hb1') | (repeat' (first | (with_reducible exact Below.refl _ _) | (with_reducible assumption) | (with_reducible exact Below.size (by assumption)) | (with_reducible refine Below.drew ?_))))
          (first | (go_at_call 13; (with_reducible refine (Hc.out _).mono ?_); rintro e w1 ⟨rfl, hb1'⟩; have hq : Below wr.heap.size wr w1 := below_step (by assumption) hb1') | fail)
        go_wp2_with fail
        go_ret2
        exact ⟨_, ret2_bool Hfin.out.symm, below_step hB hq⟩
      · have hpd : decide (p < n) = false := decide_eq_false hpn
        have hfin : memP xs ⟨a, l⟩ = false := by
          cases hmm : memP xs ⟨a, l⟩
          · rfl
          · obtain ⟨t, ht, hte⟩ := List.mem_iff_getElem.1 (memP_iff.1 hmm)
            have h0 : cmpP xs[t] ⟨a, l⟩ = 0 := cmpP_zero.2 hte
            have := HI.out.1 t _ (List.getElem?_eq_getElem ht) (by have := HN.out; omega)
            omega
        have Hfin := Lib.hid hfin
        have Hu : undef = Value.tuple #[] := rfl
        clear hfin
        clear Hu
        go_wp2_with fail
        go_quiet (fail)
        go_wp2_with fail
        go_ret2
        exact ⟨_, ret2_bool Hfin.out.symm, below_dn2 hB _⟩

def cmpPs : List Pfx → List Pfx → Int
  | [], [] => 0
  | [], _ :: _ => -1
  | _ :: _, [] => 1
  | p :: ps, q :: qs => if cmpP p q = 0 then cmpPs ps qs else cmpP p q
theorem cmpPs_take {xs ys : List Pfx} {k : Nat} (h : xs.take k = ys.take k) : cmpPs xs ys = cmpPs (xs.drop k) (ys.drop k) := by
  induction k generalizing xs ys with
  | zero => rfl
  | succ k ih =>
    cases xs with
    | nil =>
      cases ys with
      | nil => rfl
      | cons q qs => simp at h
    | cons p ps =>
      cases ys with
      | nil => simp at h
      | cons q qs =>
        simp at h
        obtain ⟨rfl, h⟩ := h
        rw [cmpPs, if_pos (cmpP_zero.2 rfl)]
        exact ih h
theorem drop_cons {α : Type} {l : List α} {k : Nat} {x : α} (h : l[k]? = some x) : l.drop k = x :: l.drop (k + 1) := by
  obtain ⟨h1, h2⟩ := List.getElem?_eq_some_iff.1 h
  rw [List.drop_eq_getElem_cons h1, h2]

set_option maxHeartbeats 2000000 in
theorem pfx_Compare (w : World) (F : Nat → Prop) (A B : Option Addr) (n c m d : Nat) (xs ys : List Pfx) (hl : listR 2 pfxR w F [.slice A n c] xs) (hu : listR 2 pfxR w F [.slice B m d] ys) (hF : InF F w) :
    Calls Try.prog 41 #[.slice A n c, .slice B m d, .func (.func 13) #[] #[]] w fun e w' => e = .returned (.int .i64 (cmpPs xs ys)) ∧ Below w.heap.size w w' := by
  have hn63 : n ≤ 9223372036854775807 := by have := hl.len; unfold maxLen at this; omega
  have hm63 : m ≤ 9223372036854775807 := by have := hu.len; unfold maxLen at this; omega
  have HN := Lib.hid hl.len.1
  have HM := Lib.hid hu.len.1
  have Hl := Lib.hid hl
  have Hu := Lib.hid hu
  clear hl hu
  go_enter Try.func41, Try.ntmps41
  go_wp2_with fail
  go_loopw [13] (fun i wr => ∃ k : Nat, k ≤ n ∧ k ≤ m ∧ i = .int .i64 k ∧ Hid (xs.take k = ys.take k) ∧ Below w.heap.size w wr) (fun i _ => n - (intOf i).toNat)
  case atStart => exact ⟨0, Nat.zero_le _, Nat.zero_le _, rfl, Lib.hid rfl, Below.refl _ _⟩
  case round =>
    obtain ⟨k, hk, hkm, rfl, HT, hB⟩ := hrel
    by_cases hlt : k < n
    · obtain ⟨a, l, b, off, hx, rfl, hFb, hf, c1, c2⟩ := pfx_at Hl.out hlt
      have d1 := (hB.cell (p := ⟨b, off + k * 2, none⟩) (hF b hFb)).trans c1
      have d2 := (hB.cell (p := ⟨b, off + k * 2 + 1, none⟩) (hF b hFb)).trans c2
      have hk0 : (0 : Int) ≤ (k : Int) := by omega
      have hk1 : (k : Int) < (n : Int) := by omega
      have Hx := Lib.hid hx
      clear hx c1 c2
      by_cases hlm : k < m
      · obtain ⟨a', l', b', off', hy, rfl, hFb', hf', c3, c4⟩ := pfx_at Hu.out hlm
        have d3 := (hB.cell (p := ⟨b', off' + k * 2, none⟩) (hF b' hFb')).trans c3
        have d4 := (hB.cell (p := ⟨b', off' + k * 2 + 1, none⟩) (hF b' hFb')).trans c4
        have hb' : b' < wr.heap.size := Nat.lt_of_lt_of_le (hF b' hFb') hB.size
        have hdm : decide (m ≤ k) = false := decide_eq_false (by omega)
        have hk2 : (k : Int) < (m : Int) := by omega
        have Hy := Lib.hid hy
        obtain ⟨z, hz⟩ : ∃ z, z = cmpP ⟨a, l⟩ ⟨a', l'⟩ := ⟨_, rfl⟩
        have hc := fun W => ip_CmpB a l a' l' W hf hf'
        rw [← hz] at hc
        have Hc := Lib.hid hc
        have Hz := Lib.hid hz
        have hBa := (hB.alloc hB.size (.cells #[.int .u32 a, .int .i64 l] 35)).alloc (by have := hB.size; simp; omega) (.cells #[.int .u32 a', .int .i64 l'] 35)
        clear hy c3 c4 hf hf' hz hc
        cases hz0 : (z != 0)
        · have hze : z = 0 := by simpa using hz0
          have he : Hid ((Pfx.mk a l) = ⟨a', l'⟩) := cmpP_zero.1 (by rw [← Hz.out]; exact hze)
          clear hze
          go_wp2_with fail
          refine (Hc.out _).mono ?_
          rintro e w1 ⟨rfl, hb1⟩
          go_wp2_with fail
          go_roundw
          case rel => exact ⟨k + 1, by omega, by omega, by go_num, Lib.hid (by rw [take_snoc Hx.out, take_snoc Hy.out, HT.out, he.out]), below_step hBa hb1⟩
          case measure => simp [intOf]; omega
        · have hne : ¬ z = 0 := by simpa using hz0
          have hfin : Hid (cmpPs xs ys = z) := by
            show _ = _
            rw [cmpPs_take HT.out, drop_cons Hx.out, drop_cons Hy.out, cmpPs, if_neg (by rw [← Hz.out]; exact hne), Hz.out]
          clear hne
          go_wp2_with fail
          refine (Hc.out _).mono ?_
          rintro e w1 ⟨rfl, hb1⟩
          go_wp2_with fail
          go_ret
          exact ⟨ret_int hfin.out.symm, below_step hBa hb1⟩
      · have hdm : decide (m ≤ k) = true := decide_eq_true (by omega)
        have hfin : Hid (cmpPs xs ys = 1) := by
          show _ = _
          have e1 : ys.drop k = [] := List.drop_of_length_le (by have := HM.out; omega)
          rw [cmpPs_take HT.out, drop_cons Hx.out, e1]
          rfl
        go_wp2_with fail
        go_ret
        exact ⟨ret_int hfin.out.symm, hB.alloc hB.size _⟩
    · obtain rfl : n = k := by omega
      by_cases hnm : n < m
      · obtain ⟨a', l', b', off', hy, rfl, hFb', hf', c3, c4⟩ := pfx_at Hu.out hnm
        have hdm : decide (n < m) = true := decide_eq_true hnm
        have hfin : Hid (cmpPs xs ys = -1) := by
          show _ = _
          have e1 : xs.drop n = [] := List.drop_of_length_le (by have := HN.out; omega)
          rw [cmpPs_take HT.out, drop_cons hy, e1]
          rfl
        clear hy
        go_wp2_with fail
        go_ret
        exact ⟨ret_int hfin.out.symm, hB⟩
      · have hdm : decide (n < m) = false := decide_eq_false hnm
        have hfin : Hid (cmpPs xs ys = 0) := by
          show _ = _
          have e1 : xs.drop n = [] := List.drop_of_length_le (by have := HN.out; omega)
          have e2 : ys.drop n = [] := List.drop_of_length_le (by have := HM.out; omega)
          rw [cmpPs_take HT.out, e1, e2]
          rfl
        go_wp2_with fail
        go_ret
        exact ⟨ret_int hfin.out.symm, hB⟩

/-! ### a set's methods that only read -/
set_option maxHeartbeats 1000000 in
theorem set_Has (w : World) (F : Nat → Prop) (A : Option Addr) (n c : Nat) (xs : List Pfx) (a l : Int) (hl : listR 2 pfxR w F [.slice A n c] xs) (hF : InF F w) (hs : sortedP xs) (hp : (Pfx.mk a l).Fits) (hn : n ≤ 1073741824) :
    Calls Try.prog 14 #[.agg #[.slice A n c], .agg #[.int .u32 a, .int .i64 l]] w fun e w' => e = .returned (.bool (memP xs ⟨a, l⟩)) ∧ Below w.heap.size w w' := by
  have Hl := Lib.hid hl
  have Hs := Lib.hid hs
  have hB : Below w.heap.size w ((w.alloc (.cells #[.slice A n c] 26)).alloc (.cells #[.int .u32 a, .int .i64 l] 35)) := ((Below.refl _ _).alloc (Nat.le_refl _) _).alloc (by simp) _
  have HB := Lib.hid hB
  clear hl hs hB
  go_enter Try.func14, Try.ntmps14
  go_wp2_with fail
  refine (pfx_Search _ F A n c xs a l ((listR_ok pfxR_ok).below Hl.out HB.out hF) (hF.below HB.out) Hs.out hp hn).mono ?_
  rintro e w1 ⟨i, rfl, hb1⟩
  go_wp2_with fail
  go_ret
  exact ⟨rfl, below_step HB.out hb1⟩
set_option maxHeartbeats 1000000 in
theorem set_Len (w : World) (A : Option Addr) (n c : Nat) :
    Calls Try.prog 15 #[.agg #[.slice A n c]] w fun e w' => e = .returned (.int .i64 n) ∧ Below w.heap.size w w' := by
  go_enter Try.func15, Try.ntmps15
  go_wp2_with fail
  go_ret
  exact ⟨rfl, (Below.refl _ _).alloc (Nat.le_refl _) _⟩
set_option maxHeartbeats 1000000 in
theorem set_List (w : World) (F : Nat → Prop) (A : Option Addr) (n c : Nat) (xs : List Pfx) (hl : listR 2 pfxR w F [.slice A n c] xs) (hF : InF F w) (hn : n ≤ 1073741824) :
    Calls Try.prog 12 #[.agg #[.slice A n c]] w fun e w' => ∃ v, e = .returned v ∧ ownR 35 2 pfxR w' F w.heap.size v xs ∧ Below w.heap.size w w' := by
  have Hl := Lib.hid hl
  have HB := Lib.hid ((Below.refl w.heap.size w).alloc (Nat.le_refl _) (.cells #[.slice A n c] 26))
  clear hl
  go_enter Try.func12, Try.ntmps12
  go_wp2_with fail
  refine (pfx_Clone _ F A n c xs ((listR_ok pfxR_ok).below Hl.out HB.out hF) (hF.below HB.out) hn).mono ?_
  rintro e w1 ⟨v, rfl, hv, hb1⟩
  have Hv := Lib.hid hv
  clear hv
  go_wp2_with fail
  go_ret
  refine ⟨_, rfl, ?_, below_step HB.out hb1⟩
  obtain ⟨cells, h1, h2, h3⟩ := Hv.out
  refine ⟨cells, ⟨h1.1, ?_⟩, h2, h3⟩
  rcases h1.2 with h4 | ⟨g, cap, cur, e1, e2, e3⟩
  · exact .inl h4
  · exact .inr ⟨g, cap, cur, e1, by simp at e2; omega, e3⟩
set_option maxHeartbeats 1000000 in
theorem set_Same (w : World) (F : Nat → Prop) (A B : Option Addr) (n c m d : Nat) (xs ys : List Pfx) (hl : listR 2 pfxR w F [.slice A n c] xs) (hu : listR 2 pfxR w F [.slice B m d] ys) (hF : InF F w) :
    Calls Try.prog 24 #[.agg #[.slice A n c], .agg #[.slice B m d]] w fun e w' => e = .returned (.bool (eqPs xs ys)) ∧ Below w.heap.size w w' := by
  have Hl := Lib.hid hl
  have Hu := Lib.hid hu
  have HB := Lib.hid (show Below w.heap.size w ((w.alloc (.cells #[.slice A n c] 26)).alloc (.cells #[.slice B m d] 26)) from ((Below.refl _ _).alloc (Nat.le_refl _) _).alloc (by simp) _)
  clear hl hu
  go_enter Try.func24, Try.ntmps24
  go_wp2_with fail
  refine (pfx_Equal _ F A B n c m d xs ys ((listR_ok pfxR_ok).below Hl.out HB.out hF) ((listR_ok pfxR_ok).below Hu.out HB.out hF) (hF.below HB.out)).mono ?_
  rintro e w1 ⟨rfl, hb1⟩
  go_wp2_with fail
  go_ret
  exact ⟨rfl, below_step HB.out hb1⟩
set_option maxHeartbeats 1000000 in
theorem set_Cmp (w : World) (F : Nat → Prop) (A B : Option Addr) (n c m d : Nat) (xs ys : List Pfx) (hl : listR 2 pfxR w F [.slice A n c] xs) (hu : listR 2 pfxR w F [.slice B m d] ys) (hF : InF F w) :
    Calls Try.prog 23 #[.agg #[.slice A n c], .agg #[.slice B m d]] w fun e w' => e = .returned (.int .i64 (cmpPs xs ys)) ∧ Below w.heap.size w w' := by
  have Hl := Lib.hid hl
  have Hu := Lib.hid hu
  have HB := Lib.hid (show Below w.heap.size w ((w.alloc (.cells #[.slice A n c] 26)).alloc (.cells #[.slice B m d] 26)) from ((Below.refl _ _).alloc (Nat.le_refl _) _).alloc (by simp) _)
  clear hl hu
  go_enter Try.func23, Try.ntmps23
  go_wp2_with fail
  refine (pfx_Compare _ F A B n c m d xs ys ((listR_ok pfxR_ok).below Hl.out HB.out hF) ((listR_ok pfxR_ok).below Hu.out HB.out hF) (hF.below HB.out)).mono ?_
  rintro e w1 ⟨rfl, hb1⟩
  go_wp2_with fail
  go_ret
  exact ⟨rfl, below_step HB.out hb1⟩
end Go.Proofs.Ythiodgnklfbmjaa
