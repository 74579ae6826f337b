/- slices.Compact at prefixes. -/
import Derived.Test.YthiodgnklfbmjaaPsE
namespace Go.Proofs.Ythiodgnklfbmjaa
open Go.RowKit Go.Sort Go.Shelf
set_option linter.unusedVariables false

theorem blk_at {w : World} {g : Nat} {t : TypeId} {xs : List Pfx} {T : List Value} (h : Blk w g t (pcells xs ++ T).toArray) {k : Nat} {a l : Int} (hx : xs[k]? = some ⟨a, l⟩) : w.cell? ⟨g, k * 2, none⟩ = some (.int .u32 a) ∧ w.cell? ⟨g, k * 2 + 1, none⟩ = some (.int .i64 l) := by
  have hk := (List.getElem?_eq_some_iff.1 hx).1
  constructor
  · rw [h.cell, List.getElem?_toArray, List.getElem?_append_left (by rw [pcells_len]; omega), pcells_get, show k * 2 / 2 = k by omega, show k * 2 % 2 = 0 by omega, hx]
    rfl
  · rw [h.cell, List.getElem?_toArray, List.getElem?_append_left (by rw [pcells_len]; omega), pcells_get, show (k * 2 + 1) / 2 = k by omega, show (k * 2 + 1) % 2 = 1 by omega, hx]
    rfl
theorem pcells_append (xs ys : List Pfx) : pcells (xs ++ ys) = pcells xs ++ pcells ys := by simp [pcells]
theorem pcells_set {xs : List Pfx} {T : List Value} {k : Nat} (hk : k < xs.length) (p : Pfx) : (pcells xs ++ T).take (k * 2) ++ pfxE p ++ (pcells xs ++ T).drop (k * 2 + 2) = pcells (xs.set k p) ++ T := by
  have e : xs = xs.take k ++ xs[k] :: xs.drop (k + 1) := by rw [List.getElem_cons_drop, List.take_append_drop]
  have e2 : xs.set k p = xs.take k ++ p :: xs.drop (k + 1) := by rw [List.set_eq_take_append_cons_drop, if_pos hk]
  have hl : (pcells (xs.take k)).length = k * 2 := by rw [pcells_len, List.length_take]; omega
  have e3 : pcells xs = pcells (xs.take k) ++ (pfxE xs[k] ++ pcells (xs.drop (k + 1))) := by
    conv => lhs; rw [e]
    rw [pcells_append]
    rfl
  have e4 : pcells (xs.set k p) = pcells (xs.take k) ++ (pfxE p ++ pcells (xs.drop (k + 1))) := by
    rw [e2, pcells_append]
    rfl
  have hl2 : ∀ p : Pfx, (pfxE p).length = 2 := fun _ => rfl
  have e5 : pcells xs ++ T = pcells (xs.take k) ++ (pfxE xs[k] ++ (pcells (xs.drop (k + 1)) ++ T)) := by rw [e3]; simp
  rw [e4, e5, ← hl, List.take_left, ← List.drop_drop, List.drop_left, ← hl2 xs[k], List.drop_left]
  simp

def dupB (xs : List Pfx) : Nat → Bool
  | 0 => false
  | j + 1 => match xs[j]?, xs[j + 1]? with
    | some p, some q => q.addr == p.addr && q.len == p.len
    | _, _ => false
def compactN (xs : List Pfx) : Nat → List Pfx
  | 0 => []
  | j + 1 => compactN xs j ++ (match xs[j]? with | some x => if dupB xs j = true then [] else [x] | none => [])
theorem compactN_le (xs : List Pfx) (j : Nat) : (compactN xs j).length ≤ j := by
  induction j with
  | zero => simp [compactN]
  | succ j ih =>
    unfold compactN
    rw [List.length_append]
    split
    · split
      · simp; omega
      · simp; omega
    · simp; omega
theorem compactN_yes {xs : List Pfx} {j : Nat} {x : Pfx} (hx : xs[j]? = some x) (h : dupB xs j = true) : compactN xs (j + 1) = compactN xs j := by simp [compactN, hx, h]
theorem compactN_no {xs : List Pfx} {j : Nat} {x : Pfx} (hx : xs[j]? = some x) (h : dupB xs j = false) : compactN xs (j + 1) = compactN xs j ++ [x] := by simp [compactN, hx, h]
theorem dup_eq {xs : List Pfx} {j : Nat} {x y : Pfx} (hx : xs[j]? = some x) (hy : xs[j + 1]? = some y) : (dupB xs (j + 1) = true ↔ y = x) := by
  obtain ⟨a, l⟩ := x
  obtain ⟨b, m⟩ := y
  simp [dupB, hx, hy]
theorem compactN_spec {xs : List Pfx} (hs : xs.Pairwise fun p q => ¬ cmpP q p < 0) : ∀ (j : Nat), j ≤ xs.length → sortedP (compactN xs j) ∧ (∀ p, p ∈ compactN xs j ↔ p ∈ xs.take j) ∧ (∀ p x, p ∈ compactN xs j → xs[j]? = some x → dupB xs j = false → cmpP p x < 0)
  | 0, _ => ⟨.nil, by simp [compactN], by simp [compactN]⟩
  | j + 1, hj => by
    obtain ⟨h1, h2, h3⟩ := compactN_spec hs j (by omega)
    have hx := List.getElem?_eq_getElem (show j < xs.length by omega)
    have hle : ∀ p y, p ∈ xs.take (j + 1) → xs[j + 1]? = some y → dupB xs (j + 1) = false → cmpP p y < 0 := fun p y hp hy hd => by
      rw [← Bool.not_eq_true, dup_eq hx hy] at hd
      obtain ⟨t, ht, rfl⟩ := List.mem_iff_getElem.1 hp
      rw [List.getElem_take]
      rw [List.length_take] at ht
      obtain ⟨hy1, hy2⟩ := List.getElem?_eq_some_iff.1 hy
      have hp1 := List.pairwise_iff_getElem.1 hs j (j + 1) (by omega) hy1 (by omega)
      rw [hy2] at hp1
      have hq : ¬ cmpP xs[j] xs[t] < 0 := by
        by_cases htj : t = j
        · subst htj
          rw [cmpP_lt]; omega
        · exact List.pairwise_iff_getElem.1 hs t j (by omega) (by omega) (by omega)
      have hne : cmpP y xs[j] ≠ 0 := fun h => hd (cmpP_zero.1 h)
      rw [cmpP_lt] at *
      have hd2 : ¬ (y.addr = xs[j].addr ∧ y.len = xs[j].len) := fun h => hd (by
        cases y
        cases hxx : xs[j]
        rw [hxx] at h
        simp only at h
        rw [h.1, h.2])
      omega
    cases hd : dupB xs j
    · rw [compactN_no hx hd]
      refine ⟨?_, fun p => ?_, fun p y hp hy hd2 => hle p y ?_ hy hd2⟩
      · refine List.pairwise_append.2 ⟨h1, List.pairwise_singleton _ _, fun p hp q hq => ?_⟩
        rw [List.mem_singleton] at hq
        subst hq
        exact h3 p _ hp hx hd
      · rw [take_snoc hx, List.mem_append, List.mem_append, h2 p]
      · rw [take_snoc hx, List.mem_append]
        rw [List.mem_append, h2 p] at hp
        exact hp
    · rw [compactN_yes hx hd]
      have hmem : ∀ p, p ∈ xs.take j ↔ p ∈ xs.take (j + 1) := fun p => by
        rw [take_snoc hx, List.mem_append, List.mem_singleton]
        refine ⟨.inl, fun h => h.elim id fun h => ?_⟩
        cases j with
        | zero => cases hd
        | succ i =>
          have hi := List.getElem?_eq_getElem (show i < xs.length by omega)
          rw [dup_eq hi hx] at hd
          rw [h, hd]
          have h5 : xs[i] ∈ xs.take i ++ [xs[i]] := List.mem_append_right _ (List.mem_singleton.2 rfl)
          rw [← take_snoc hi] at h5
          exact h5
      exact ⟨h1, fun p => by rw [h2 p, hmem p], fun p y hp hy hd2 => hle p y ((hmem p).1 ((h2 p).1 hp)) hy hd2⟩
theorem pfx_one (a l : Int) : (#[Value.int .u32 a, Value.int .i64 l] : Array Value).all (·.oneCell') = true := all_oneCell_toArray (by intro v hv; simp at hv; rcases hv with rfl | rfl <;> rfl)
theorem pfx_zero1 : ∀ n, ∀ v ∈ (Builtin.zeroCells (Value.agg #[.int .u32 0, .int .i64 0]).cells n).toList, v.oneCell' = true := fun n v hv => by
  simp only [Builtin.zeroCells, Array.toList_map, List.mem_map] at hv
  obtain ⟨i, _, rfl⟩ := hv
  have h : i % 2 = 0 ∨ i % 2 = 1 := by omega
  show (#[Value.int .u32 0, Value.int .i64 0][i % 2]!).oneCell' = true
  rcases h with h | h <;> rw [h] <;> rfl
theorem pfx_zero (w : World) : (zeroValue 35).run Try.prog w = .ok (.agg #[.int .u32 0, .int .i64 0]) w := by kernel_rfl
theorem Blk.dn {w : World} {g : Nat} {t : TypeId} {cs : Array Value} (h : Blk w g t cs) (k : Nat) : Blk (w.drewN k) g t cs := ⟨h.heap⟩
theorem grownBy_dn {w w' : World} {g : Nat} (h : w.grownBy w' (some g)) (k : Nat) : w.grownBy (w'.drewN k) (some g) := grownBy_step h (below_dn2 (Below.refl _ _) k)
theorem grownBy_of_below' {w w' : World} (h : Below w.heap.size w w') (g : Nat) : w.grownBy w' (some g) := ⟨h.os, h.tape, h.output, h.size, fun k hk _ => h.block k hk⟩
set_option maxRecDepth 100000 in
set_option maxHeartbeats 2000000 in
theorem pfx_Compact (w : World) (g n cap : Nat) (xs : List Pfx) (T : List Value) (hn : n = xs.length) (hblk : Blk w g 35 (pcells xs ++ T).toArray) (hm : n ≤ 1073741824) (hcap : n ≤ cap) :
    Calls Try.prog 35 #[.slice (some ⟨g, 0, none⟩) n cap] w fun e w' => ∃ T', e = .returned (.slice (some ⟨g, 0, none⟩) (compactN xs n).length cap) ∧ Blk w' g 35 (pcells (compactN xs n) ++ T').toArray ∧ (pcells (compactN xs n) ++ T').length = (pcells xs ++ T).length ∧ w.grownBy w' (some g) := by
  have HN := Lib.hid hn
  have Hblk := Lib.hid hblk
  clear hn hblk
  by_cases h2 : n < 2
  · have hc : compactN xs n = xs := by
      have := HN.out
      rcases xs with _ | ⟨x, _ | ⟨y, r⟩⟩
      · simp at this; subst this; rfl
      · simp at this; subst this; rfl
      · simp at this; omega
    have hd : decide (n < 2) = true := decide_eq_true h2
    have HC := Lib.hid hc
    clear hc
    go_enter Try.func35, Try.ntmps35
    go_wp2_with fail
    go_ret
    refine ⟨T, ?_, ?_, ?_, grownBy_refl _ _⟩
    · rw [HC.out, ← HN.out]; rfl
    · rw [HC.out]; exact Hblk.out
    · rw [HC.out]
  · have hd : decide (n < 2) = false := decide_eq_false h2
    go_enter Try.func35, Try.ntmps35
    go_wp2_with fail
    go_loopw [3] (fun i wr => ∃ k : Nat, k + 1 ≤ n ∧ i = .int .i64 ((k : Int) + 1) ∧ Hid (compactN xs (k + 1) = xs.take (k + 1)) ∧ Below w.heap.size w wr) (fun i _ => n - (intOf i).toNat)
    case atStart => exact ⟨0, by omega, rfl, Lib.hid (by
      obtain ⟨x, hx⟩ : ∃ x, xs[0]? = some x := ⟨_, List.getElem?_eq_getElem (by have := HN.out; omega)⟩
      rw [compactN_no hx rfl, take_snoc hx]; rfl), Below.refl _ _⟩
    case round =>
      obtain ⟨k, hk, rfl, HT, hB⟩ := hrel
      by_cases hlt : k + 1 < n
      · obtain ⟨⟨a, l⟩, hx⟩ : ∃ x, xs[k]? = some x := ⟨_, List.getElem?_eq_getElem (by have := HN.out; omega)⟩
        obtain ⟨⟨b, m⟩, hy⟩ : ∃ x, xs[k + 1]? = some x := ⟨_, List.getElem?_eq_getElem (by have := HN.out; omega)⟩
        have hblk := Hblk.out.below hB Hblk.out.lt
        obtain ⟨c1, c2⟩ := blk_at hblk hx
        obtain ⟨c3, c4⟩ := blk_at hblk hy
        have hk0 : (0 : Int) ≤ (k : Int) := by omega
        have hk1 : (k : Int) + 1 < (n : Int) := by omega
        have Hx := Lib.hid hx
        have Hy := Lib.hid hy
        clear hx hy hblk
        cases h1 : (b == a)
        · have hne : Hid (dupB xs (k + 1) = false) := by
            show _ = _
            rw [← Bool.not_eq_true, dup_eq Hx.out Hy.out]
            intro e
            cases e
            simp at h1
          go_wp2_with fail
          go_quiet (fail)
          go_wp2_with fail
          go_roundw
          case rel => exact ⟨k + 1, by omega, by go_num, Lib.hid (by rw [compactN_no Hy.out hne.out, HT.out, ← take_snoc Hy.out]), below_dn2 hB _⟩
          case measure => simp [intOf]; omega
        · cases h3 : (m == l)
          · have hne : Hid (dupB xs (k + 1) = false) := by
              show _ = _
              rw [← Bool.not_eq_true, dup_eq Hx.out Hy.out]
              intro e
              cases e
              simp at h3
            go_wp2_with fail
            go_quiet (fail)
            go_wp2_with fail
            go_roundw
            case rel => exact ⟨k + 1, by omega, by go_num, Lib.hid (by rw [compactN_no Hy.out hne.out, HT.out, ← take_snoc Hy.out]), below_dn2 hB _⟩
            case measure => simp [intOf]; omega
          · have e1 : b = a := by simpa using h1
            have e2 : m = l := by simpa using h3
            subst e1
            subst e2
            clear h1 h3
            go_wp2_with fail
            go_quiet (fail)
            go_wp2_with fail
            have hBk := Hblk.out.below hB Hblk.out.lt
            have Hgr := Lib.hid (grownBy_of_below' hB g)
            have HD : Hid (compactN xs (k + 2) = xs.take (k + 1)) := by
              show _ = _
              rw [compactN_yes Hy.out ((dup_eq Hx.out Hy.out).2 rfl), HT.out]
            have Hbd := Lib.hid hBk
            have hk3 : (k : Int) + 1 ≤ (n : Int) := by omega
            clear hB c1 c2 c3 c4 hBk
            generalize hn2 : n - (k + 1) = n2
            generalize cap - (k + 1) = cap2
            have HN2 : Hid (n = k + 1 + n2) := by show _ = _; omega
            have hn23 : n2 ≤ 1073741824 := by omega
            clear hn2
            go_loopw [3, 5] (fun i j wx => ∃ (p t : Nat) (C : List Pfx), i = .int .i64 p ∧ j = .int .i64 ((t : Int) + 1) ∧ t + 1 ≤ n2 ∧ p ≤ k + 1 + t ∧ Hid (C.length = n ∧ C.take p = compactN xs (k + 2 + t) ∧ C.drop (k + 1 + t) = xs.drop (k + 1 + t)) ∧ Blk wx g 35 (pcells C ++ T).toArray ∧ w.grownBy wx (some g)) (fun i j _ => n2 - (intOf j).toNat)
            case atStart => 
              refine ⟨k + 1, 0, xs, by push_cast; rfl, rfl, by have := HN2.out; omega, by omega, Lib.hid ⟨HN.out.symm, by rw [HD.out], rfl⟩, Hbd.out.dn _, grownBy_dn Hgr.out _⟩
            case round =>
              obtain ⟨p, t, C, rfl, rfl, ht, hp, HC, hbx, hgx⟩ := hrel
              by_cases hlt2 : t + 1 < n2
              · obtain ⟨⟨x1, x2⟩, hx⟩ : ∃ x, xs[k + 1 + t]? = some x := ⟨_, List.getElem?_eq_getElem (by have := HN.out; have := HN2.out; omega)⟩
                obtain ⟨⟨y1, y2⟩, hy⟩ : ∃ x, xs[k + 1 + t + 1]? = some x := ⟨_, List.getElem?_eq_getElem (by have := HN.out; have := HN2.out; omega)⟩
                have hdr : ∀ i, C[k + 1 + t + i]? = xs[k + 1 + t + i]? := fun i => by rw [← List.getElem?_drop, ← List.getElem?_drop, HC.out.2.2]
                have hx1 : C[k + 1 + t]? = _ := (hdr 0).trans hx
                have hy1 : C[k + 1 + t + 1]? = _ := (hdr 1).trans hy
                clear hdr
                have hB1 := blk_at hbx hx1
                have hB2 := blk_at hbx hy1
                have c1 : wr.cell? ⟨g, (k + 1) * 2 + t * 2, none⟩ = some (.int .u32 x1) := by rw [show (k + 1) * 2 + t * 2 = (k + 1 + t) * 2 by omega]; exact hB1.1
                have c2 : wr.cell? ⟨g, (k + 1) * 2 + t * 2 + 1, none⟩ = some (.int .i64 x2) := by rw [show (k + 1) * 2 + t * 2 = (k + 1 + t) * 2 by omega]; exact hB1.2
                have c3 : wr.cell? ⟨g, (k + 1) * 2 + (t + 1) * 2, none⟩ = some (.int .u32 y1) := by rw [show (k + 1) * 2 + (t + 1) * 2 = (k + 1 + t + 1) * 2 by omega]; exact hB2.1
                have c4 : wr.cell? ⟨g, (k + 1) * 2 + (t + 1) * 2 + 1, none⟩ = some (.int .i64 y2) := by rw [show (k + 1) * 2 + (t + 1) * 2 = (k + 1 + t + 1) * 2 by omega]; exact hB2.2
                have ht0 : (0 : Int) ≤ (t : Int) := by omega
                have ht1 : (t : Int) + 1 < (n2 : Int) := by omega
                have Hx1 := Lib.hid hx
                have Hy1 := Lib.hid hy
                have Hbx := Lib.hid hbx
                have Hgx := Lib.hid hgx
                clear hx hy hx1 hy1 hB1 hB2 hbx hgx
                cases h1 : (y1 == x1)
                · have hne : Hid (dupB xs (k + 1 + t + 1) = false) := by
                    show _ = _
                    rw [← Bool.not_eq_true, dup_eq Hx1.out Hy1.out]
                    intro e
                    cases e
                    simp at h1
                  go_wp2_with fail
                  have Hth : Hid (∀ q, (wr.drewN q).there g (p * 2) 2) := fun q => blk_there (Hbx.out.dn q) (by rw [List.length_append, pcells_len]; have := HC.out.1; have := HN2.out; omega)
                  have hp0 : (0 : Int) ≤ (p : Int) := by omega
                  have hp1 : (p : Int) < (n : Int) := by have := HN2.out; omega
                  go_quiet (fail)
                  go_wp2_with (refine wpList_store_mid rfl 35 (.tmp 51) (.tmp 50) rfl g (p * 2) _ rfl rfl (Hth.out _) (by kernel_rfl) (pfx_one _ _) ?_)
                  have hbz := Blk.setCells [.int .u32 y1, .int .i64 y2] (p * 2) (Hbx.out.dn nq) (by rw [List.length_append, pcells_len]; simp only [List.length_cons, List.length_nil]; have := HC.out.1; have := HN2.out; omega)
                  have hce := pcells_set (T := T) (xs := C) (k := p) (by have := HC.out.1; have := HN2.out; omega) ⟨y1, y2⟩
                  rw [show pfxE ⟨y1, y2⟩ = [.int .u32 y1, .int .i64 y2] from rfl] at hce
                  rw [show p * 2 + [Value.int .u32 y1, Value.int .i64 y2].length = p * 2 + 2 from rfl, hce] at hbz
                  go_roundw
                  case rel =>
                    refine ⟨p + 1, t + 1, C.set p ⟨y1, y2⟩, by push_cast; rfl, by push_cast; rfl, by omega, by omega, Lib.hid ⟨by rw [List.length_set]; exact HC.out.1, ?_, ?_⟩, hbz, grownBy_trans (grownBy_dn Hgx.out _) (grownBy_setCells _ _ _ _)⟩
                    · have hpl : p < C.length := by have := HC.out.1; have := HN2.out; omega
                      rw [show k + 2 + (t + 1) = k + 1 + t + 1 + 1 by omega, compactN_no Hy1.out hne.out, take_snoc (x := ⟨y1, y2⟩) (by rw [List.getElem?_set_self hpl]), List.take_set_of_le (Nat.le_refl _), HC.out.2.1, show k + 2 + t = k + 1 + t + 1 by omega]
                    · rw [List.drop_set_of_lt (by omega), show k + 1 + (t + 1) = (k + 1 + t) + 1 by omega, ← List.drop_drop, HC.out.2.2, List.drop_drop]
                  case measure => simp [intOf]; omega
                · cases h3 : (y2 == x2)
                  · have hne : Hid (dupB xs (k + 1 + t + 1) = false) := by
                      show _ = _
                      rw [← Bool.not_eq_true, dup_eq Hx1.out Hy1.out]
                      intro e
                      cases e
                      simp at h3
                    go_wp2_with fail
                    have Hth : Hid (∀ q, (wr.drewN q).there g (p * 2) 2) := fun q => blk_there (Hbx.out.dn q) (by rw [List.length_append, pcells_len]; have := HC.out.1; have := HN2.out; omega)
                    have hp0 : (0 : Int) ≤ (p : Int) := by omega
                    have hp1 : (p : Int) < (n : Int) := by have := HN2.out; omega
                    go_quiet (fail)
                    go_wp2_with (refine wpList_store_mid rfl 35 (.tmp 51) (.tmp 50) rfl g (p * 2) _ rfl rfl (Hth.out _) (by kernel_rfl) (pfx_one _ _) ?_)
                    have hbz := Blk.setCells [.int .u32 y1, .int .i64 y2] (p * 2) (Hbx.out.dn nq) (by rw [List.length_append, pcells_len]; simp only [List.length_cons, List.length_nil]; have := HC.out.1; have := HN2.out; omega)
                    have hce := pcells_set (T := T) (xs := C) (k := p) (by have := HC.out.1; have := HN2.out; omega) ⟨y1, y2⟩
                    rw [show pfxE ⟨y1, y2⟩ = [.int .u32 y1, .int .i64 y2] from rfl] at hce
                    rw [show p * 2 + [Value.int .u32 y1, Value.int .i64 y2].length = p * 2 + 2 from rfl, hce] at hbz
                    go_roundw
                    case rel =>
                      refine ⟨p + 1, t + 1, C.set p ⟨y1, y2⟩, by push_cast; rfl, by push_cast; rfl, by omega, by omega, Lib.hid ⟨by rw [List.length_set]; exact HC.out.1, ?_, ?_⟩, hbz, grownBy_trans (grownBy_dn Hgx.out _) (grownBy_setCells _ _ _ _)⟩
                      · have hpl : p < C.length := by have := HC.out.1; have := HN2.out; omega
                        rw [show k + 2 + (t + 1) = k + 1 + t + 1 + 1 by omega, compactN_no Hy1.out hne.out, take_snoc (x := ⟨y1, y2⟩) (by rw [List.getElem?_set_self hpl]), List.take_set_of_le (Nat.le_refl _), HC.out.2.1, show k + 2 + t = k + 1 + t + 1 by omega]
                      · rw [List.drop_set_of_lt (by omega), show k + 1 + (t + 1) = (k + 1 + t) + 1 by omega, ← List.drop_drop, HC.out.2.2, List.drop_drop]
                    case measure => simp [intOf]; omega
                  · have e1 : y1 = x1 := by simpa using h1
                    have e2 : y2 = x2 := by simpa using h3
                    subst e1
                    subst e2
                    clear h1 h3
                    have hdup : Hid (dupB xs (k + 1 + t + 1) = true) := (dup_eq Hx1.out Hy1.out).2 rfl
                    go_wp2_with fail
                    go_quiet (fail)
                    go_wp2_with fail
                    go_roundw
                    case rel =>
                      refine ⟨p, t + 1, C, rfl, by push_cast; rfl, by omega, by omega, Lib.hid ⟨HC.out.1, ?_, ?_⟩, Hbx.out.dn _, grownBy_dn Hgx.out _⟩
                      · rw [show k + 2 + (t + 1) = k + 1 + t + 1 + 1 by omega, compactN_yes Hy1.out hdup.out, HC.out.2.1, show k + 2 + t = k + 1 + t + 1 by omega]
                      · rw [show k + 1 + (t + 1) = (k + 1 + t) + 1 by omega, ← List.drop_drop, HC.out.2.2, List.drop_drop]
                    case measure => simp [intOf]; omega
              · have hd2 : decide ((t : Int) + 1 < (n2 : Int)) = false := decide_eq_false (by omega)
                have hp0 : (0 : Int) ≤ (p : Int) := by omega
                have hp1 : (p : Int) ≤ (n : Int) := by have := HN2.out; omega
                have hp2 : p ≤ n := by omega
                have hpc : p < cap := by have := HN2.out; omega
                have Hbx := Lib.hid hbx
                have Hgx := Lib.hid hgx
                have Hlt2 := Lib.hid hlt2
                clear hbx hgx
                have hnp : Hid (0 < n - p) := by show _ < _; have := HN2.out; have := Hlt2.out; omega
                have hfit : Hid (p * 2 + (n - p) * 2 ≤ (pcells C ++ T).length) := by show _ ≤ _; rw [List.length_append, pcells_len]; have := HC.out.1; have := HN2.out; omega
                go_wp2_with (refine wpList_clearK rfl (.tmp 56) 22 rfl 35 (.agg #[.int .u32 0, .int .i64 0]) 2 Try.underlying22 pfx_zero rfl pfx_zero1 g (p * 2) (n - p) (cap - p) _ (by rfl) Hbx.out hnp.out hfit.out ?_)
                intro W1 zs hzl hbz hgz
                have HZ := Lib.hid hzl
                have Hbz := Lib.hid hbz
                have Hgz := Lib.hid (grownBy_trans Hgx.out hgz)
                clear hzl hbz hgz
                go_wp2_with fail
                go_ret
                have hlt := Hlt2.out
                have h2 := HN2.out
                have hnn : n = k + 2 + t := by omega
                have hcp : compactN xs n = C.take p := by rw [hnn, HC.out.2.1]
                have hl : (C.take p).length = p := by rw [List.length_take]; have := HC.out.1; omega
                refine ⟨zs ++ T, ?_, ?_, ?_, Hgz.out⟩
                · rw [hcp, hl]; rfl
                · have e := Hbz.out
                  have e1 : (pcells C ++ T).take (p * 2) = pcells (C.take p) := by
                    rw [List.take_append_of_le_length (by rw [pcells_len]; have := HC.out.1; omega)]
                    conv => lhs; rw [← List.take_append_drop p C, pcells_append]
                    rw [← hl, show (C.take p).length * 2 = (pcells (C.take p)).length by rw [pcells_len], hl, List.take_left]
                  have e2 : (pcells C ++ T).drop (p * 2 + (n - p) * 2) = T := by
                    rw [show p * 2 + (n - p) * 2 = (pcells C).length by rw [pcells_len]; have := HC.out.1; omega, List.drop_left]
                  rw [e1, e2] at e
                  rw [hcp]
                  exact e
                · rw [hcp, List.length_append, List.length_append, List.length_append, pcells_len, pcells_len, hl, HZ.out, ← HN.out]
                  omega
      · have hkn : k + 1 = n := by omega
        subst hkn
        go_wp2_with fail
        go_ret
        have hcp : compactN xs (k + 1) = xs := by rw [HT.out, HN.out, List.take_length]
        refine ⟨T, ?_, ?_, ?_, grownBy_of_below' hB g⟩
        · rw [hcp, ← HN.out]; rfl
        · rw [hcp]; exact Hblk.out.below hB Hblk.out.lt
        · rw [hcp]
end Go.Proofs.Ythiodgnklfbmjaa
