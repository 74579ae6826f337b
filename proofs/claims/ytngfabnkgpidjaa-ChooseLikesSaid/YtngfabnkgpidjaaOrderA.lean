/- choose.Order: the order as plain lists; the library's Delete of one int. -/
import Derived.Test.YtngfabnkgpidjaaChooseG
import Derived.Test.YtngfabnkgpidjaaPlainBest
import Derived.Deep.RegionLaw
namespace Go.Proofs.Ytngfabnkgpidjaa
open Go.RowKit
set_option linter.unusedVariables false

theorem best_of (w : World) (F : Nat → Prop) (A : Option Addr) (n c : Nat) (xs : List Cand) (hl : listR 14 candR w F [.slice A n c] xs) (hF : InF F w) (hn : n ≤ 1048576) (hg : ∀ x ∈ xs, x.Good) :
    Calls Try.prog 11 #[.slice A n c] w fun e w' => e = .returned (.int .i64 (bestI xs)) ∧ Below w.heap.size w w' := by
  have hlen := hl.len.1
  by_cases h0 : n = 0
  · subst h0
    have : xs = [] := List.eq_nil_of_length_eq_zero (by omega)
    subst this
    exact choose_Best0 w c A
  · obtain ⟨x, hx⟩ : ∃ x, xs[0]? = some x := ⟨_, List.getElem?_eq_getElem (by omega)⟩
    obtain ⟨b, off, cs, rfl, hFb, _, _⟩ := hl.at_ hx
    exact choose_Best1 w F b off n c xs hl hF hFb (by omega) hn hg
theorem bestI_bounds {xs : List Cand} (h : xs ≠ []) : 0 ≤ bestI xs ∧ bestI xs < xs.length := by
  have hne : leftTo xs (bestBy beforeI (candAt xs 0) xs) xs.length ≠ [] := leftTo_ne (bestBy_mem _ _ h)
  have hm := bestBy_mem (rankI xs) 0 (stayI_ne (xs := xs) hne)
  obtain ⟨k, hk, e, _⟩ := leftTo_mem.1 (List.mem_filter.1 hm).1
  rw [bestI, if_neg h]
  omega

def candsAt (xs : List Cand) (ps : List Nat) : List Cand := ps.map fun (i : Nat) => candAt xs (i : Int)
def bAt (xs : List Cand) (ps : List Nat) : Nat := (bestI (candsAt xs ps)).toNat
def psAt (xs : List Cand) : Nat → List Nat
  | 0 => List.range xs.length
  | j + 1 => (psAt xs j).eraseIdx (bAt xs (psAt xs j))
def ordAt (xs : List Cand) (j : Nat) : Nat := (psAt xs j).getD (bAt xs (psAt xs j)) 0
def ordL (xs : List Cand) (j : Nat) : List Nat := (List.range j).map (ordAt xs)
theorem bAt_lt {xs : List Cand} {ps : List Nat} (h : ps ≠ []) : bAt xs ps < ps.length ∧ bestI (candsAt xs ps) = (bAt xs ps : Int) := by
  have h1 := bestI_bounds (xs := candsAt xs ps) (by unfold candsAt; simpa using h)
  unfold bAt
  have h2 : (candsAt xs ps).length = ps.length := by simp [candsAt]
  omega
theorem psAt_len (xs : List Cand) : ∀ j, j ≤ xs.length → (psAt xs j).length = xs.length - j
  | 0, _ => by simp [psAt]
  | j + 1, h => by
    have ih := psAt_len xs j (by omega)
    have hne : psAt xs j ≠ [] := by intro e; rw [e] at ih; simp at ih; omega
    rw [psAt, List.length_eraseIdx, if_pos (bAt_lt hne).1, ih]
    omega
theorem psAt_lt (xs : List Cand) : ∀ j, ∀ i ∈ psAt xs j, i < xs.length
  | 0, i, h => by simpa [psAt] using h
  | j + 1, i, h => psAt_lt xs j i (List.mem_of_mem_eraseIdx h)
theorem psAt_nodup (xs : List Cand) : ∀ j, (psAt xs j).Pairwise (· < ·)
  | 0 => List.pairwise_lt_range
  | j + 1 => (psAt_nodup xs j).sublist (List.eraseIdx_sublist _ _)
theorem ordL_succ (xs : List Cand) (j : Nat) : ordL xs (j + 1) = ordL xs j ++ [ordAt xs j] := by simp [ordL, List.range_succ]
theorem ordL_len (xs : List Cand) (j : Nat) : (ordL xs j).length = j := by simp [ordL]
theorem candsAt_good {xs : List Cand} (hg : ∀ x ∈ xs, x.Good) {ps : List Nat} (h : ∀ i ∈ ps, i < xs.length) : ∀ x ∈ candsAt xs ps, x.Good := fun x hx => by
  obtain ⟨i, hi, rfl⟩ := List.mem_map.1 hx
  exact hg _ (cand_mem (h i hi))

/-! ### a row of the call's own, some of its cells laid anew -/
theorem Blk.setCells {t : TypeId} {g : Nat} : ∀ (vs : List Value) {w : World} {cs : List Value} (o : Nat), Blk w g t cs.toArray → o + vs.length ≤ cs.length → Blk (w.setCells g o vs) g t (cs.take o ++ vs ++ cs.drop (o + vs.length)).toArray
  | [], w, cs, o, h, hl => by simpa [World.setCells] using h
  | v :: vs, w, cs, o, h, hl => by
    simp only [List.length_cons] at hl
    have h1 := Blk.setCells vs (o + 1) (h.set_ o v) (by simp; omega)
    have e : (cs.set o v).take (o + 1) ++ vs ++ (cs.set o v).drop (o + 1 + vs.length) = cs.take o ++ v :: vs ++ cs.drop (o + (v :: vs).length) := by
      rw [List.drop_set_of_lt (by omega)]
      have : (cs.set o v).take (o + 1) = cs.take o ++ [v] := by
        rw [take_snoc (x := v) (by rw [List.getElem?_set_self (by omega)]), List.take_set_of_le (Nat.le_refl _)]
      rw [this, List.length_cons, show o + 1 + vs.length = o + (vs.length + 1) by omega]
      simp
    rw [e] at h1
    exact h1
theorem grownBy_setCells (g : Nat) : ∀ (vs : List Value) (w : World) (o : Nat), w.grownBy (w.setCells g o vs) (some g)
  | [], w, o => grownBy_refl w g
  | v :: vs, w, o => grownBy_trans (grownBy_setCell w g o v) (grownBy_setCells g vs _ (o + 1))

theorem erase_cells {L : List Int} {T : List Value} {k n : Nat} (hn : L.length = n) (hk : k < n) :
    ((L.map (Value.int .i64) ++ T).take k ++ (L.drop (k + 1)).map (Value.int .i64) ++ (L.map (Value.int .i64) ++ T).drop (k + ((L.drop (k + 1)).map (Value.int .i64)).length)).take (n - 1) = (L.eraseIdx k).map (Value.int .i64) := by
  have h1 : (L.map (Value.int .i64) ++ T).take k = (L.take k).map (Value.int .i64) := by rw [List.take_append_of_le_length (by simp; omega), List.map_take]
  rw [h1, List.eraseIdx_eq_take_drop_succ, List.map_append, List.take_append_of_le_length (by simp; omega), List.take_of_length_le (by simp; omega)]

set_option maxHeartbeats 4000000 in
theorem delete_int (w : World) (base g n c k : Nat) (L : List Int) (hl : Hid (L.length = n)) (hown : w.ownsRow base 3 1 (.slice (some ⟨g, 0, none⟩) n c) n (L.map (Value.int .i64))) (hn : n ≤ 1048576) (hk : k < n) :
    Calls Try.prog 32 #[.slice (some ⟨g, 0, none⟩) n c, .int .i64 k, .int .i64 ((k : Int) + 1)] w fun e w' =>
      e = .returned (.slice (some ⟨g, 0, none⟩) (n - 1) c) ∧ w'.ownsRow base 3 1 (.slice (some ⟨g, 0, none⟩) (n - 1) c) (n - 1) ((L.eraseIdx k).map (Value.int .i64)) ∧ w.grownBy w' (some g) := by
  obtain ⟨T, hblk, hbg, hnc, hcm, hlen, hln⟩ := ownsRow_blk hown
  obtain ⟨i0, hi0, hz0, hz1, hz2⟩ := info_parts int_info
  obtain ⟨news, hnews⟩ : ∃ news, news = (L.drop (k + 1)).map (Value.int .i64) := ⟨_, rfl⟩
  have hnl : news.length = n - (k + 1) := by rw [hnews, List.length_map, List.length_drop, hl.out]
  obtain ⟨A, hA, hsrc⟩ : ∃ A : Addr, (if c = k + 1 then some (⟨g, 0, none⟩ : Addr) else some ⟨g, k + 1, none⟩) = some A ∧ Hid (∀ t u, news[t]? = some u → w.drew.cell? (A.add t) = some u) := by
    by_cases h : c = k + 1
    · refine ⟨⟨g, 0, none⟩, by simp [h], fun t u hu => ?_⟩
      have h0 : news.length = 0 := by omega
      rw [List.length_eq_zero_iff.1 h0] at hu
      simp at hu
    · refine ⟨⟨g, k + 1, none⟩, by simp [h], fun t u hu => ?_⟩
      rw [hnews, List.getElem?_map, List.getElem?_drop] at hu
      rw [Addr.add_mid]
      show w.cell? _ = _
      rw [hblk.cell, List.getElem?_toArray, List.getElem?_append_left, List.getElem?_map, hu]
      have := (List.getElem?_eq_some_iff.1 (Option.map_eq_some_iff.1 hu).choose_spec.1).1
      rw [List.length_map]
      omega
  have s1 : Hid (news.length = (n - (k + 1)) * 1) := by rw [Nat.mul_one]; exact hnl
  have s2 : Hid (∀ u ∈ news, u.oneCell' = true) := by
    intro u hu
    rw [hnews] at hu
    obtain ⟨x, _, rfl⟩ := List.mem_map.1 hu
    rfl
  have s3 : Hid (∀ t, t < news.length → (w.drew.cell? ⟨g, 0 + k * 1 + t, none⟩).isSome = true ∧ w.drew.frozen? ⟨g, 0 + k * 1 + t, none⟩ = false) := by
    intro t ht
    refine ⟨?_, hblk.free _⟩
    show (w.cell? _).isSome = true
    rw [hblk.cell, List.getElem?_toArray, List.getElem?_eq_getElem (by rw [hlen]; omega)]
    rfl
  have HN := Lib.hid hnews
  have Hlen := Lib.hid hlen
  have Hln := Lib.hid hln
  unfold maxLen at hcm
  have hblk1 : Blk (w.drew.setCells g (0 + k * 1) news) g 3 ((L.map (Value.int .i64) ++ T).take k ++ news ++ (L.map (Value.int .i64) ++ T).drop (k + news.length)).toArray := by
    have := Blk.setCells news (0 + k * 1) hblk.drew (by rw [hlen]; omega)
    rwa [show 0 + k * 1 = k by omega] at this ⊢
  have hg1 : w.grownBy (w.drew.setCells g (0 + k * 1) news) (some g) := by
    have := grownBy_setCells g news w.drew (0 + k * 1)
    exact ⟨this.os, this.tape, this.output, this.size, this.block⟩
  obtain ⟨W1, hW1⟩ : ∃ W1, W1 = w.drew.setCells g (0 + k * 1) news := ⟨_, rfl⟩
  rw [← hW1] at hblk1 hg1
  have HW : Hid (W1 = w.drew.setCells g (0 + k * 1) news) := hW1
  have Hnl := Lib.hid hnl
  have hke : (((k : Int)) == (k : Int) + 1) = false := beq_eq_false_iff_ne.2 (by omega)
  have hic : k ≤ c := by omega
  have hjc : k + 1 ≤ c := by omega
  have hj0 : (0 : Int) ≤ (k : Int) + 1 := by omega
  have hj1 : (k : Int) + 1 ≤ (n : Int) := by omega
  clear hW1 hblk hnews hnl hlen hln hown
  go_enter Try.func32, Try.ntmps32
  go_wp2_with fail
  go_region_law (refine step_append_room rfl (.tmp 22) (.tmp 25) 28 rfl 3 i0 1 Try.underlying28 hi0 hz1 g 0 k c (by simp [Act.eval, Act.put]) A (n - (k + 1)) (c - (k + 1)) news (by simp [Act.eval, Act.put]) s1.out hsrc.out s2.out (by omega) s3.out ?_; rw [← HW.out])
  have hne2 : ¬ c = k + (n - (k + 1)) := by omega
  have hq0 : (0 : Int) ≤ (k : Int) + ((n - (k + 1) : Nat) : Int) := by omega
  go_wp2_with (refine wpList_clear rfl (.tmp 31) 28 rfl 3 (.int .i64 0) Try.underlying28 zero_int rfl rfl g (k + (n - (k + 1))) (n - (k + (n - (k + 1)))) (c - (k + (n - (k + 1)))) _ (by rfl) hblk1 ?hn ?hfit ?_)
  case hn => omega
  case hfit => have := Hlen.out; have := Hnl.out; simp only [List.length_append, List.length_take, List.length_drop] at *; omega
  intro w3 hblk3 hg3
  go_wp2_with fail
  go_ret
  have e1 : k + (n - (k + 1)) = n - 1 := by omega
  rw [HN.out] at hblk3
  have h1 := Hlen.out
  have h2 := Hnl.out
  have h3 := hl.out
  have he := erase_cells (L := L) (T := T) (k := k) (n := n) h3 hk
  rw [e1] at hblk3 ⊢
  simp only [List.append_assoc] at he hblk3
  rw [he] at hblk3
  refine ⟨rfl, ?_, grownBy_trans hg1 hg3⟩
  have hel : (L.eraseIdx k).length = n - 1 := by rw [List.length_eraseIdx, if_pos (by omega), h3]
  refine blk_ownsRow hblk3 hbg (by omega) (by unfold maxLen; omega) ?_ (by simp [hel])
  simp only [List.length_append, List.length_replicate, List.length_drop, List.length_take, List.length_map, hel] at h1 h2 ⊢
  omega
end Go.Proofs.Ytngfabnkgpidjaa
