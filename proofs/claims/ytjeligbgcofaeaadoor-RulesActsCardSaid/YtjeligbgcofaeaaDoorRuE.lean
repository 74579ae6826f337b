/- Package rules: Act.Cmp. -/
import Derived.Test.YtjeligbgcofaeaaDoorRuD
import Derived.Test.YtjeligbgcofaeaaDoorCmp
namespace Go.Proofs.YtjeligbgcofaeaaDoor
open Go.RowKit
set_option linter.unusedVariables false
set_option linter.unusedSimpArgs false

set_option maxHeartbeats 400000 in
theorem cmp_isNaNU (a : Int) (w : World) : Calls Tryd.prog 69 #[.int .u64 a] w fun e w' => e = .returned (.bool false) ∧ w = w' := by
  go_enter Tryd.func69, Tryd.ntmps69
  go_wp2
  go_ret
  exact ⟨by simp, rfl⟩
set_option maxHeartbeats 400000 in
theorem cmp_CompareU (a b : Int) (w : World) : Calls Tryd.prog 59 #[.int .u64 a, .int .u64 b] w fun e w' => e = .returned (.int .i64 (cmpI a b)) ∧ w = w' := by
  go_enter Tryd.func59, Tryd.ntmps59
  go_wp2_with (go_at_call 69; refine (cmp_isNaNU _ _).mono ?_; rintro e w' ⟨rfl, rfl⟩)
  all_goals go_ret
  all_goals exact ⟨ret_int (by unfold cmpI; split <;> (try split) <;> omega), rfl⟩
theorem cmpL_hit {xs ys : List Int} {k : Nat} {x y : Int} (h : xs.take k = ys.take k) (hx : xs[k]? = some x) (hy : ys[k]? = some y) (hn : cmpI x y ≠ 0) : cmpL xs ys = cmpI x y := by
  rw [cmpL_take h, drop_at hx, drop_at hy, cmpL]
  unfold cmpI at hn ⊢
  split
  · rfl
  · rename_i h1
    split
    · rfl
    · rename_i h2
      rw [if_neg h1, if_neg h2] at hn
      exact absurd rfl hn
theorem cmpI_eq {x y : Int} (h : cmpI x y = 0) : x = y := by
  unfold cmpI at h
  split at h
  · cases h
  · split at h
    · cases h
    · omega
set_option maxHeartbeats 1000000 in
theorem sl_Compare (b1 o1 c1 b2 o2 c2 n : Nat) (xs ys : List Int) (w : World) (hx : Hid (xs.length = n)) (hy : Hid (ys.length = n)) (hr1 : w.rangeAt b1 o1 (xs.map (Value.int .u64))) (hr2 : w.rangeAt b2 o2 (ys.map (Value.int .u64))) (hn : n ≤ 1048576) :
    Calls Tryd.prog 42 #[.slice (some ⟨b1, o1, none⟩) n c1, .slice (some ⟨b2, o2, none⟩) n c2] w fun e w' => e = .returned (.int .i64 (cmpL xs ys)) ∧ w = w' := by
  have H1 := Lib.hid hr1
  have H2 := Lib.hid hr2
  clear hr1 hr2
  go_enter Tryd.func42, Tryd.ntmps42
  go_wp2
  go_loop [11] (fun i => ∃ k : Nat, k ≤ n ∧ i = .int .i64 k ∧ Hid (xs.take k = ys.take k)) (fun i => n - (intOf i).toNat)
  case atStart => exact ⟨0, Nat.zero_le _, rfl, Lib.hid (by simp)⟩
  case round =>
    obtain ⟨k, hk, rfl, HE⟩ := hrel
    by_cases hlt : k < n
    · obtain ⟨x, hx1⟩ : ∃ x, xs[k]? = some x := ⟨_, List.getElem?_eq_getElem (by rw [hx.out]; exact hlt)⟩
      obtain ⟨y, hy1⟩ : ∃ y, ys[k]? = some y := ⟨_, List.getElem?_eq_getElem (by rw [hy.out]; exact hlt)⟩
      have q1 : w.cell? ⟨b1, o1 + k, none⟩ = some (.int .u64 x) := H1.out k _ (by rw [List.getElem?_map, hx1]; rfl)
      have q2 : w.cell? ⟨b2, o2 + k, none⟩ = some (.int .u64 y) := H2.out k _ (by rw [List.getElem?_map, hy1]; rfl)
      have HX1 := Lib.hid hx1
      have HY1 := Lib.hid hy1
      have HC := Lib.hid (cmp_CompareU x y w)
      obtain ⟨c, hc⟩ : ∃ c, c = cmpI x y := ⟨_, rfl⟩
      have HCE := Lib.hid hc
      rw [← hc] at HC
      clear hx1 hy1 hc
      by_cases h0 : c = 0
      · subst h0
        go_wp2_with (go_at_call 59; (with_reducible refine HC.out.mono ?_); rintro e w' ⟨rfl, rfl⟩)
        go_round
        case rel => exact ⟨k + 1, by omega, by go_num, Lib.hid (by rw [take_snoc HX1.out, take_snoc HY1.out, HE.out, cmpI_eq HCE.out.symm])⟩
        case measure => simp [intOf]; omega
      · have d1 : (c != 0) = true := by simpa using h0
        go_wp2_with (go_at_call 59; (with_reducible refine HC.out.mono ?_); rintro e w' ⟨rfl, rfl⟩)
        go_ret
        exact ⟨ret_int (by rw [HCE.out]; exact (cmpL_hit HE.out HX1.out HY1.out (by rw [← HCE.out]; exact h0)).symm), rfl⟩
    · obtain rfl : k = n := by omega
      have E : Hid (cmpL xs ys = 0) := Lib.hid (by
        have h := HE.out
        rw [List.take_of_length_le (by rw [hx.out]; omega), List.take_of_length_le (by rw [hy.out]; omega)] at h
        rw [h, cmpL_self])
      go_wp2
      go_ret
      exact ⟨ret_int E.out.symm, rfl⟩
def Act9.vs (a : Act9) : List Int := [a.v0, a.v1, a.v2, a.v3, a.v4, a.v5, a.v6, a.v7, a.v8]
def cmpA (a b : Act9) : Int := cmpL (a.set :: a.vs) (b.set :: b.vs)
theorem cmpA_or (a b : Act9) : orL [cmpI a.set b.set, cmpL a.vs b.vs] = cmpA a b := by
  unfold cmpA
  rw [cmpL, orL, orL, orL]
  unfold cmpI
  by_cases h1 : a.set < b.set
  · simp [h1]
  · by_cases h2 : b.set < a.set
    · simp [h1, h2]
    · simp only [h1, h2, if_false, if_true]
      split <;> simp_all
set_option maxRecDepth 100000 in
set_option maxHeartbeats 4000000 in
theorem act_Cmp (a b : Act9) (w : World) :
    Calls Tryd.prog 15 #[.agg a.vals.toArray, .agg b.vals.toArray] w fun e w' => e = .returned (.int .i64 (cmpA a b)) ∧ Below w.heap.size w w' := by
  have HX : Hid (Below w.heap.size w ((w.alloc (.cells a.vals.toArray 25)).alloc (.cells b.vals.toArray 25)) ∧ Blk ((w.alloc (.cells a.vals.toArray 25)).alloc (.cells b.vals.toArray 25)) w.heap.size 25 a.vals.toArray ∧ Blk ((w.alloc (.cells a.vals.toArray 25)).alloc (.cells b.vals.toArray 25)) (w.heap.size + 1) 25 b.vals.toArray) := by
    have b1 := Blk.new w 25 a.vals.toArray
    have l1 := (Below.refl w.heap.size w).alloc (Nat.le_refl _) (.cells a.vals.toArray 25)
    generalize hW1 : w.alloc (.cells a.vals.toArray 25) = W1 at b1 l1 ⊢
    have s1 : W1.heap.size = w.heap.size + 1 := by rw [← hW1]; simp
    have b2 := Blk.new W1 25 b.vals.toArray
    have l2 := (Below.refl W1.heap.size W1).alloc (Nat.le_refl _) (.cells b.vals.toArray 25)
    rw [s1] at b2
    exact Lib.hid ⟨below_step l1 l2, b1.below l2 (by omega), b2⟩
  go_enter Tryd.func15, Tryd.ntmps15
  go_upto_region 1 with fail
  refine wp_gen (fun W => Below w.heap.size w W ∧ Blk W w.heap.size 25 a.vals.toArray ∧ Blk W (w.heap.size + 1) 25 b.vals.toArray) HX.out ?_
  rintro W ⟨hW, hk1, hk2⟩
  have HW := Lib.hid hW
  have HK1 := Lib.hid hk1
  have HK2 := Lib.hid hk2
  have e1 : ∀ w', Below W.heap.size W w' → w'.cell? ⟨w.heap.size, 0, none⟩ = some (.int .i64 a.set) := fun w' q => (hk1.below q hk1.lt).cell 0
  have e2 : ∀ w', Below W.heap.size W w' → w'.cell? ⟨w.heap.size + 1, 0, none⟩ = some (.int .i64 b.set) := fun w' q => (hk2.below q hk2.lt).cell 0
  have hWW : Below W.heap.size W W := Below.refl _ _
  have HC1 := Lib.hid (fun W2 => cmp_Compare a.set b.set W2)
  have HC2 := Lib.hid (fun W2 (q : Below W.heap.size W W2) => sl_Compare w.heap.size 1 9 (w.heap.size + 1) 1 9 9 a.vs b.vs W2 rfl rfl (rangeAt_drop (hk1.below q hk1.lt).range 1) (rangeAt_drop (hk2.below q hk2.lt).range 1) (by omega))
  obtain ⟨x, hx⟩ : ∃ x, x = cmpI a.set b.set := ⟨_, rfl⟩
  obtain ⟨y, hy⟩ : ∃ y, y = cmpL a.vs b.vs := ⟨_, rfl⟩
  rw [← hx] at HC1
  rw [← hy] at HC2
  have HE : Hid (orL [x, y] = cmpA a b) := Lib.hid (by rw [hx, hy, cmpA_or])
  have hAL : Below W.heap.size W (W.alloc (.cells #[.int .i64 x, .int .i64 y] 3)) := hWW.alloc (Nat.le_refl _) _
  have HC3 := Lib.hid (cmp_Or W.heap.size 0 2 2 [x, y] (W.alloc (.cells #[.int .i64 x, .int .i64 y] 3)).drew rfl (rangeAt_new_d _ _ _) (by omega))
  clear hW hk1 hk2 HX hx hy
  refine wp_region_held_drew (S := (fun w' => Below W.heap.size W w')) (by kernel_rfl) ?_ (fun hHeld => ?_)
  · (try dsimp only); (first | (with_reducible exact below_step (by assumption) hb1') | (repeat' (first | (with_reducible exact Below.refl _ _) | (with_reducible assumption) | (with_reducible exact Below.size (by assumption)) | (with_reducible refine Below.drew ?_))))
  refine wpAnyH_take (i := 0) (v := ?_) rfl (by kernel_rfl) (by kernel_rfl) (by kernel_rfl) (fun _ _ _ h => h) (Or.inl ⟨by rfl, ?_⟩) (by assumption) ?_
  rotate_left
  · (intro w hSw; (try dsimp only at hSw); go_simp; first | done | with_reducible rfl)
  try simp only [List.getElem_toArray, List.getElem_cons_zero, List.getElem_cons_succ, Act.put, List.setIfInBounds_toArray, List.set_cons_zero, List.set_cons_succ]
  refine wpAnyH_take (i := 1) (v := ?_) rfl (by kernel_rfl) (by kernel_rfl) (by kernel_rfl) (fun _ _ _ h => h) (Or.inl ⟨by rfl, ?_⟩) (by assumption) ?_
  rotate_left
  · (intro w hSw; (try dsimp only at hSw); go_simp; first | done | with_reducible rfl)
  try simp only [List.getElem_toArray, List.getElem_cons_zero, List.getElem_cons_succ, Act.put, List.setIfInBounds_toArray, List.set_cons_zero, List.set_cons_succ]
  refine wpAnyH_take (i := 2) (v := ?_) rfl (by kernel_rfl) (by kernel_rfl) (by kernel_rfl) (fun _ _ _ h => h) (Or.inl ⟨by rfl, ?_⟩) (by assumption) ?_
  rotate_left
  · (intro w hSw; (try dsimp only at hSw); go_simp; first | done | with_reducible rfl)
  try simp only [List.getElem_toArray, List.getElem_cons_zero, List.getElem_cons_succ, Act.put, List.setIfInBounds_toArray, List.set_cons_zero, List.set_cons_succ]
  refine wpAnyH_take (i := 3) (v := ?_) rfl (by kernel_rfl) (by kernel_rfl) (by kernel_rfl) (fun _ _ _ h => h) (Or.inl ⟨by rfl, ?_⟩) (by assumption) ?_
  rotate_left
  · (intro w hSw; (try dsimp only at hSw); go_simp; first | done | with_reducible rfl)
  try simp only [List.getElem_toArray, List.getElem_cons_zero, List.getElem_cons_succ, Act.put, List.setIfInBounds_toArray, List.set_cons_zero, List.set_cons_succ]
  refine wpAnyH_take (i := 5) (v := ?_) rfl (by kernel_rfl) (by kernel_rfl) (by kernel_rfl) (fun _ _ _ h => h) (Or.inl ⟨by rfl, ?_⟩) (by assumption) ?_
  rotate_left
  · (intro w hSw; (try dsimp only at hSw); go_simp; first | done | with_reducible rfl)
  try simp only [List.getElem_toArray, List.getElem_cons_zero, List.getElem_cons_succ, Act.put, List.setIfInBounds_toArray, List.set_cons_zero, List.set_cons_succ]
  refine wpAnyH_take (i := 6) (v := ?_) rfl (by kernel_rfl) (by kernel_rfl) (by kernel_rfl) (fun _ _ _ h => h) (Or.inl ⟨by rfl, ?_⟩) (by assumption) ?_
  rotate_left
  · (intro w hSw; (try dsimp only at hSw); go_simp; first | done | with_reducible rfl)
  try simp only [List.getElem_toArray, List.getElem_cons_zero, List.getElem_cons_succ, Act.put, List.setIfInBounds_toArray, List.set_cons_zero, List.set_cons_succ]
  refine wpAnyH_take (i := 7) (v := ?_) rfl (by kernel_rfl) (by kernel_rfl) (by kernel_rfl) (fun _ _ _ h => h) (Or.inl ⟨by rfl, ?_⟩) (by assumption) ?_
  rotate_left
  · (intro w hSw; (try dsimp only at hSw); go_simp; first | done | with_reducible rfl)
  try simp only [List.getElem_toArray, List.getElem_cons_zero, List.getElem_cons_succ, Act.put, List.setIfInBounds_toArray, List.set_cons_zero, List.set_cons_succ]
  refine wpAnyH_take (i := 8) (v := ?_) rfl (by kernel_rfl) (by kernel_rfl) (by kernel_rfl) (fun _ _ _ h => h) (Or.inl ⟨by rfl, ?_⟩) (by assumption) ?_
  rotate_left
  · (intro w hSw; (try dsimp only at hSw); go_simp; first | done | with_reducible rfl)
  try simp only [List.getElem_toArray, List.getElem_cons_zero, List.getElem_cons_succ, Act.put, List.setIfInBounds_toArray, List.set_cons_zero, List.set_cons_succ]
  refine wpAnyH_ready (rs := [4]) (by kernel_rfl) (by simp) ?_
  refine AllReadyH.cons rfl (fun K hK => ?_) AllReadyH.nil
  go_simp
  (go_at_call 41; (with_reducible refine (HC1.out _).mono ?_); rintro e u1 ⟨rfl, rfl⟩; have hb1' := hHeld; have hq := hHeld)
  go_wp2_with fail
  refine hK.out _ _ ?_ (fun hHeldN => ?_)
  · (try dsimp only); (first | (with_reducible exact below_step (by assumption) hb1') | (repeat' (first | (with_reducible exact Below.refl _ _) | (with_reducible assumption) | (with_reducible exact Below.size (by assumption)) | (with_reducible refine Below.drew ?_))))
  clear hK K hHeld
  try clear hb1' hq
  have hHeld := hHeldN
  clear hHeldN
  try simp only [List.getElem_toArray, List.getElem_cons_zero, List.getElem_cons_succ, Act.put, List.setIfInBounds_toArray, List.set_cons_zero, List.set_cons_succ]
  refine wpAnyH_ready (rs := [9]) (by kernel_rfl) (by simp) ?_
  refine AllReadyH.cons rfl (fun K hK => ?_) AllReadyH.nil
  go_simp
  (go_at_call 42; (with_reducible refine (HC2.out _ hHeld).mono ?_); rintro e u1 ⟨rfl, rfl⟩; have hb1' := hHeld; have hq := hHeld)
  go_wp2_with fail
  refine hK.out _ _ ?_ (fun hHeldN => ?_)
  · (try dsimp only); (first | (with_reducible exact below_step (by assumption) hb1') | (repeat' (first | (with_reducible exact Below.refl _ _) | (with_reducible assumption) | (with_reducible exact Below.size (by assumption)) | (with_reducible refine Below.drew ?_))))
  clear hK K hHeld
  try clear hb1' hq
  have hHeld := hHeldN
  clear hHeldN
  try simp only [List.getElem_toArray, List.getElem_cons_zero, List.getElem_cons_succ, Act.put, List.setIfInBounds_toArray, List.set_cons_zero, List.set_cons_succ]
  refine wpAnyH_ready (rs := [10]) (by kernel_rfl) (by simp) ?_
  refine AllReadyH.cons rfl (fun K hK => ?_) AllReadyH.nil
  go_simp
  refine hK.out _ _ ?_ (fun hHeldN => ?_)
  · (try dsimp only); (first | (with_reducible exact below_step (by assumption) hb1') | (repeat' (first | (with_reducible exact Below.refl _ _) | (with_reducible assumption) | (with_reducible exact Below.size (by assumption)) | (with_reducible refine Below.drew ?_))))
  clear hK K hHeld
  try clear hb1' hq
  have hHeld := hHeldN
  clear hHeldN
  try simp only [List.getElem_toArray, List.getElem_cons_zero, List.getElem_cons_succ, Act.put, List.setIfInBounds_toArray, List.set_cons_zero, List.set_cons_succ]
  refine wpAnyH_ready (rs := [11]) (by kernel_rfl) (by simp) ?_
  refine AllReadyH.cons rfl (fun K hK => ?_) AllReadyH.nil
  go_simp
  (go_at_call 40; (with_reducible refine HC3.out.mono ?_); rintro e u1 ⟨rfl, rfl⟩; have hb1' := hHeld; have hq := hHeld)
  go_wp2_with fail
  refine hK.out _ _ ?_ (fun hHeldN => ?_)
  · (try dsimp only); (first | (with_reducible exact below_step (by assumption) hb1') | (repeat' (first | (with_reducible exact Below.refl _ _) | (with_reducible assumption) | (with_reducible exact Below.size (by assumption)) | (with_reducible refine Below.drew ?_))))
  clear hK K hHeld
  try clear hb1' hq
  have hHeld := hHeldN
  clear hHeldN
  try simp only [List.getElem_toArray, List.getElem_cons_zero, List.getElem_cons_succ, Act.put, List.setIfInBounds_toArray, List.set_cons_zero, List.set_cons_succ]
  refine wpAnyH_take (i := 12) (v := ?_) rfl (by kernel_rfl) (by kernel_rfl) (by kernel_rfl) (fun _ _ _ h => h) (Or.inl ⟨by rfl, ?_⟩) (by assumption) ?_
  rotate_left
  · (intro w hSw; (try dsimp only at hSw); go_simp; first | done | with_reducible rfl)
  try simp only [List.getElem_toArray, List.getElem_cons_zero, List.getElem_cons_succ, Act.put, List.setIfInBounds_toArray, List.set_cons_zero, List.set_cons_succ]
  refine wpAnyH_done (by kernel_rfl) ?_ _
  go_wp2_with fail
  go_ret
  exact ⟨ret_int HE.out, below_step HW.out (by assumption)⟩
end Go.Proofs.YtjeligbgcofaeaaDoor
