/- Package match: Hits, On, Exact (at the document's example); rules.On there. -/
import Derived.Test.YtjeligbgcofaeaaDoorRuC
namespace Go.Proofs.YtjeligbgcofaeaaDoor
open Go.RowKit
set_option linter.unusedVariables false
set_option linter.unusedSimpArgs false

def matC (mv mk : List Int) : List Value := mv.map (.int .u64) ++ mk.map (.int .u64)
theorem matC_one (mv mk : List Int) : ∀ u ∈ matC mv mk, u.oneCell' = true := by
  intro u hu
  simp only [matC, List.mem_append, List.mem_map] at hu
  rcases hu with ⟨x, _, rfl⟩ | ⟨x, _, rfl⟩ <;> rfl
theorem matC_val {mv mk : List Int} (hv : mv.length = 9) {k : Nat} (hk : k < 9) : (matC mv mk).toArray[k]? = some (.int .u64 (mv.getD k 0)) := by
  have hl : k < (mv.map (Value.int .u64)).length := by simp; omega
  simp only [matC, List.getElem?_toArray]
  rw [List.getElem?_append_left hl, List.getElem?_map, List.getD_eq_getElem?_getD, List.getElem?_eq_getElem (by omega)]
  rfl
theorem matC_mask {mv mk : List Int} (hv : mv.length = 9) (hm : mk.length = 9) {k : Nat} (hk : k < 9) : (matC mv mk).toArray[9 + k]? = some (.int .u64 (mk.getD k 0)) := by
  simp only [matC, List.getElem?_toArray]
  rw [List.getElem?_append_right (by simp; omega), List.length_map, hv, show 9 + k - 9 = k by omega, List.getElem?_map, List.getD_eq_getElem?_getD, List.getElem?_eq_getElem (by omega)]
  rfl
def hitB (mv mk : List Int) (h : Hdr) (k : Nat) : Bool := bits .and .u64 (getN h k) (mk.getD k 0) == mv.getD k 0
def hitsB (mv mk : List Int) (h : Hdr) : Bool := (List.range 9).all (hitB mv mk h)
set_option maxRecDepth 100000 in
set_option maxHeartbeats 8000000 in
theorem mat_Hits (mv mk : List Int) (h : Hdr) (w : World) (hT : Tab w) (hv : mv.length = 9) (hm : mk.length = 9) (hf : h.Fits) :
    Calls Tryd.prog 66 #[.agg (matC mv mk).toArray, .agg h.vals.toArray] w fun e w' => e = .returned (.bool (hitsB mv mk h)) ∧ Below w.heap.size w w' := by
  have HX : Hid (Below w.heap.size w ((w.alloc (.cells (matC mv mk).toArray 76)).alloc (.cells h.vals.toArray 31)) ∧ Blk ((w.alloc (.cells (matC mv mk).toArray 76)).alloc (.cells h.vals.toArray 31)) w.heap.size 76 (matC mv mk).toArray ∧ Blk ((w.alloc (.cells (matC mv mk).toArray 76)).alloc (.cells h.vals.toArray 31)) (w.heap.size + 1) 31 h.vals.toArray) := by
    have b1 := Blk.new w 76 (matC mv mk).toArray
    have l1 := (Below.refl w.heap.size w).alloc (Nat.le_refl _) (.cells (matC mv mk).toArray 76)
    generalize hW1 : w.alloc (.cells (matC mv mk).toArray 76) = W1 at b1 l1 ⊢
    have s1 : W1.heap.size = w.heap.size + 1 := by rw [← hW1]; simp
    have b2 := Blk.new W1 31 h.vals.toArray
    have l2 := (Below.refl W1.heap.size W1).alloc (Nat.le_refl _) (.cells h.vals.toArray 31)
    rw [s1] at b2
    exact Lib.hid ⟨below_step l1 l2, b1.below l2 (by omega), b2⟩
  have HT := Lib.hid hT
  have HF := Lib.hid hf
  have HV := Lib.hid hv
  have HM := Lib.hid hm
  obtain ⟨ms, hms⟩ : ∃ ms, ms = matC mv mk := ⟨_, rfl⟩
  have HMS := Lib.hid hms
  rw [← hms] at HX
  rw [← hms]
  clear hT hf hv hm hms
  go_enter Tryd.func66, Tryd.ntmps66
  go_upto_region 1 with fail
  refine wp_gen (fun W => Below w.heap.size w W ∧ Blk W w.heap.size 76 ms.toArray ∧ Blk W (w.heap.size + 1) 31 h.vals.toArray) HX.out ?_
  rintro W ⟨hW, hk1, hk2⟩
  have HW := Lib.hid hW
  have HTW := Lib.hid (HT.out.below hW)
  have RH := Lib.hid (fun w' (q : Below W.heap.size W w') => (hk2.below q hk2.lt).range)
  have XM := Lib.hid (fun w' (q : Below W.heap.size W w') (k : Nat) (hk : k < 9) => (show w'.cell? ⟨w.heap.size, k, none⟩ = some (.int .u64 (mv.getD k 0)) ∧ w'.cell? ⟨w.heap.size, 9 + k, none⟩ = some (.int .u64 (mk.getD k 0)) from ⟨((hk1.below q hk1.lt).cell k).trans (by rw [HMS.out]; exact matC_val HV.out hk), ((hk1.below q hk1.lt).cell (9 + k)).trans (by rw [HMS.out]; exact matC_mask HV.out HM.out hk)⟩))
  clear hW hk1 hk2 HX HT
  go_wp2_with fail
  go_loopw [6] (fun i wr => ∃ k : Nat, k ≤ 9 ∧ i = .int .i64 k ∧ Hid ((List.range k).all (hitB mv mk h) = true) ∧ Below W.heap.size W wr) (fun i _ => 9 - (intOf i).toNat)
  case atStart => exact ⟨0, by omega, rfl, Lib.hid rfl, Below.refl _ _⟩
  case round =>
    obtain ⟨k, hk, rfl, HR, hB⟩ := hrel
    by_cases hlt : k < 9
    · have hk0 : (0 : Int) ≤ (k : Int) := by omega
      have hk9 : (k : Int) < 9 := by omega
      have HB := Lib.hid hB
      have R1 := Lib.hid (fun w' (q : Below wr.heap.size wr w') => RH.out w' (below_step HB.out q))
      have GH := Lib.hid (fun W2 (q : Below wr.heap.size wr W2) => hd_Get h k W2 (HTW.out.below (below_step HB.out q)) HF.out hlt)
      have e1 := fun w' (q : Below wr.heap.size wr w') => (XM.out w' (below_step HB.out q) k hlt).1
      have e2 := fun w' (q : Below wr.heap.size wr w') => (XM.out w' (below_step HB.out q) k hlt).2
      have HN := Lib.hid (fun (e : hitB mv mk h k = true) => (show Hid ((List.range (k + 1)).all (hitB mv mk h) = true) from Lib.hid (by rw [List.range_succ, List.all_append, HR.out]; simp [e])))
      have HNo := Lib.hid (fun (e : hitB mv mk h k = false) => (show Hid (false = hitsB mv mk h) from Lib.hid (by
        unfold hitsB
        cases hall : (List.range 9).all (hitB mv mk h)
        · rfl
        · rw [List.all_eq_true.1 hall k (by simpa using hlt)] at e
          cases e)))
      obtain ⟨x, hx⟩ : ∃ x, x = getN h k := ⟨_, rfl⟩
      obtain ⟨y, hy⟩ : ∃ y, y = mk.getD k 0 := ⟨_, rfl⟩
      obtain ⟨z, hz⟩ : ∃ z, z = mv.getD k 0 := ⟨_, rfl⟩
      rw [← hx] at GH
      rw [← hy] at e2
      rw [← hz] at e1
      have HOK : Hid (hitB mv mk h k = (bits .and .u64 x y == z)) := Lib.hid (by rw [hx, hy, hz]; rfl)
      obtain ⟨t, ht⟩ : ∃ t, t = bits .and .u64 x y := ⟨_, rfl⟩
      rw [← ht] at HOK
      have hxy := ht.symm
      clear hx hy hz ht hB
      go_upto_region 4 with fail
      by_cases hq : t = z
      · have hqb : (t != z) = false := by simp [hq]
        have E := HN.out (by rw [HOK.out]; simp [hq])
        refine wp_region_held_drew (S := (fun w' => Below wr.heap.size wr w')) (by kernel_rfl) ?_ (fun hHeld => ?_)
        · (try dsimp only); (first | (with_reducible exact below_step (by assumption) hb1') | (repeat' (first | (with_reducible exact Below.refl _ _) | (with_reducible assumption) | (with_reducible exact Below.size (by assumption)) | (with_reducible refine Below.drew ?_))))
        refine wpAnyH_take (i := 0) (v := _) rfl (by kernel_rfl) (by kernel_rfl) (by kernel_rfl) (fun _ _ _ h => h) (yieldsIf_load_mid (by rfl) _ _ rfl _ _ rfl h.vals _ (fun w' q => R1.out w' q) Tryd.underlying31 rfl (by kernel_rfl)) (by assumption) ?_
        try simp only [List.getElem_toArray, List.getElem_cons_zero, List.getElem_cons_succ, Act.put, List.setIfInBounds_toArray, List.set_cons_zero, List.set_cons_succ]
        refine wpAnyH_take (i := 1) (v := ?_) rfl (by kernel_rfl) (by kernel_rfl) (by kernel_rfl) (fun _ _ _ h => h) (Or.inl ⟨by rfl, ?_⟩) (by assumption) ?_
        rotate_left
        · (intro w hSw; (try dsimp only at hSw); go_simp; first | done | with_reducible rfl)
        try simp only [List.getElem_toArray, List.getElem_cons_zero, List.getElem_cons_succ, Act.put, List.setIfInBounds_toArray, List.set_cons_zero, List.set_cons_succ]
        refine wpAnyH_take (i := 3) (v := ?_) rfl (by kernel_rfl) (by kernel_rfl) (by kernel_rfl) (fun _ _ _ h => h) (Or.inl ⟨by rfl, ?_⟩) (by assumption) ?_
        rotate_left
        · (intro w hSw; (try dsimp only at hSw); go_simp; first | done | with_reducible rfl)
        try simp only [List.getElem_toArray, List.getElem_cons_zero, List.getElem_cons_succ, Act.put, List.setIfInBounds_toArray, List.set_cons_zero, List.set_cons_succ]
        refine wpAnyH_take (i := 4) (v := ?_) rfl (by kernel_rfl) (by kernel_rfl) (by kernel_rfl) (fun _ _ _ h => h) (Or.inl ⟨by rfl, ?_⟩) (by assumption) ?_
        rotate_left
        · (intro w hSw; (try dsimp only at hSw); go_simp; first | done | with_reducible rfl)
        try simp only [List.getElem_toArray, List.getElem_cons_zero, List.getElem_cons_succ, Act.put, List.setIfInBounds_toArray, List.set_cons_zero, List.set_cons_succ]
        refine wpAnyH_take (i := 5) (v := ?_) rfl (by kernel_rfl) (by kernel_rfl) (by kernel_rfl) (fun _ _ _ h => h) (Or.inl ⟨by rfl, ?_⟩) (by assumption) ?_
        rotate_left
        · (intro w hSw; (try dsimp only at hSw); go_simp; first | done | with_reducible rfl)
        try simp only [List.getElem_toArray, List.getElem_cons_zero, List.getElem_cons_succ, Act.put, List.setIfInBounds_toArray, List.set_cons_zero, List.set_cons_succ]
        refine wpAnyH_take (i := 6) (v := ?_) rfl (by kernel_rfl) (by kernel_rfl) (by kernel_rfl) (fun _ _ _ h => h) (Or.inl ⟨by rfl, ?_⟩) (by assumption) ?_
        rotate_left
        · (intro w hSw; (try dsimp only at hSw); go_simp; first | done | with_reducible rfl)
        try simp only [List.getElem_toArray, List.getElem_cons_zero, List.getElem_cons_succ, Act.put, List.setIfInBounds_toArray, List.set_cons_zero, List.set_cons_succ]
        refine wpAnyH_take (i := 8) (v := ?_) rfl (by kernel_rfl) (by kernel_rfl) (by kernel_rfl) (fun _ _ _ h => h) (Or.inl ⟨by rfl, ?_⟩) (by assumption) ?_
        rotate_left
        · (intro w hSw; (try dsimp only at hSw); go_simp; first | done | with_reducible rfl)
        try simp only [List.getElem_toArray, List.getElem_cons_zero, List.getElem_cons_succ, Act.put, List.setIfInBounds_toArray, List.set_cons_zero, List.set_cons_succ]
        refine wpAnyH_take (i := 9) (v := ?_) rfl (by kernel_rfl) (by kernel_rfl) (by kernel_rfl) (fun _ _ _ h => h) (Or.inl ⟨by rfl, ?_⟩) (by assumption) ?_
        rotate_left
        · (intro w hSw; (try dsimp only at hSw); go_simp; first | done | with_reducible rfl)
        try simp only [List.getElem_toArray, List.getElem_cons_zero, List.getElem_cons_succ, Act.put, List.setIfInBounds_toArray, List.set_cons_zero, List.set_cons_succ]
        refine wpAnyH_take (i := 10) (v := ?_) rfl (by kernel_rfl) (by kernel_rfl) (by kernel_rfl) (fun _ _ _ h => h) (Or.inl ⟨by rfl, ?_⟩) (by assumption) ?_
        rotate_left
        · (intro w hSw; (try dsimp only at hSw); go_simp; first | done | with_reducible rfl)
        try simp only [List.getElem_toArray, List.getElem_cons_zero, List.getElem_cons_succ, Act.put, List.setIfInBounds_toArray, List.set_cons_zero, List.set_cons_succ]
        refine wpAnyH_take (i := 11) (v := ?_) rfl (by kernel_rfl) (by kernel_rfl) (by kernel_rfl) (fun _ _ _ h => h) (Or.inl ⟨by rfl, ?_⟩) (by assumption) ?_
        rotate_left
        · (intro w hSw; (try dsimp only at hSw); go_simp; first | done | with_reducible rfl)
        try simp only [List.getElem_toArray, List.getElem_cons_zero, List.getElem_cons_succ, Act.put, List.setIfInBounds_toArray, List.set_cons_zero, List.set_cons_succ]
        refine wpAnyH_ready (rs := [2]) (by kernel_rfl) (by simp) ?_
        refine AllReadyH.cons rfl (fun K hK => ?_) AllReadyH.nil
        go_simp
        (go_at_call 13; (with_reducible refine (GH.out _ hHeld).mono ?_); rintro e u1 ⟨rfl, hbq⟩; have hb1' := below_step hHeld hbq.below; have hq := hb1'; clear hbq)
        go_wp2_with fail
        refine hK.out _ _ ?_ (fun hHeldN => ?_)
        · (try dsimp only); (first | (with_reducible exact below_step (by assumption) hb1') | (repeat' (first | (with_reducible exact Below.refl _ _) | (with_reducible assumption) | (with_reducible exact Below.size (by assumption)) | (with_reducible refine Below.drew ?_))))
        clear hK K hHeld
        try clear hb1' hq
        have hHeld := hHeldN
        clear hHeldN
        try simp only [List.getElem_toArray, List.getElem_cons_zero, List.getElem_cons_succ, Act.put, List.setIfInBounds_toArray, List.set_cons_zero, List.set_cons_succ]
        refine wpAnyH_take (i := 7) (v := ?_) rfl (by kernel_rfl) (by kernel_rfl) (by kernel_rfl) (fun _ _ _ h => h) (Or.inl ⟨by rfl, ?_⟩) (by assumption) ?_
        rotate_left
        · (intro w hSw; (try dsimp only at hSw); go_simp; first | done | with_reducible rfl)
        try simp only [List.getElem_toArray, List.getElem_cons_zero, List.getElem_cons_succ, Act.put, List.setIfInBounds_toArray, List.set_cons_zero, List.set_cons_succ]
        refine wpAnyH_take (i := 12) (v := ?_) rfl (by kernel_rfl) (by kernel_rfl) (by kernel_rfl) (fun _ _ _ h => h) (Or.inl ⟨by rfl, ?_⟩) (by assumption) ?_
        rotate_left
        · (intro w hSw; (try dsimp only at hSw); go_simp; first | done | with_reducible rfl)
        try simp only [List.getElem_toArray, List.getElem_cons_zero, List.getElem_cons_succ, Act.put, List.setIfInBounds_toArray, List.set_cons_zero, List.set_cons_succ]
        refine wpAnyH_done (by kernel_rfl) ?_ _
        go_wp2_with fail
        go_roundw
        case rel => exact ⟨k + 1, by omega, by go_num, E, below_step HB.out (by assumption)⟩
        case measure => simp [intOf]; omega
      · have hqb : (t != z) = true := by simp [hq]
        have E := HNo.out (by rw [HOK.out]; simp [hq])
        refine wp_region_held_drew (S := (fun w' => Below wr.heap.size wr w')) (by kernel_rfl) ?_ (fun hHeld => ?_)
        · (try dsimp only); (first | (with_reducible exact below_step (by assumption) hb1') | (repeat' (first | (with_reducible exact Below.refl _ _) | (with_reducible assumption) | (with_reducible exact Below.size (by assumption)) | (with_reducible refine Below.drew ?_))))
        refine wpAnyH_take (i := 0) (v := _) rfl (by kernel_rfl) (by kernel_rfl) (by kernel_rfl) (fun _ _ _ h => h) (yieldsIf_load_mid (by rfl) _ _ rfl _ _ rfl h.vals _ (fun w' q => R1.out w' q) Tryd.underlying31 rfl (by kernel_rfl)) (by assumption) ?_
        try simp only [List.getElem_toArray, List.getElem_cons_zero, List.getElem_cons_succ, Act.put, List.setIfInBounds_toArray, List.set_cons_zero, List.set_cons_succ]
        refine wpAnyH_take (i := 1) (v := ?_) rfl (by kernel_rfl) (by kernel_rfl) (by kernel_rfl) (fun _ _ _ h => h) (Or.inl ⟨by rfl, ?_⟩) (by assumption) ?_
        rotate_left
        · (intro w hSw; (try dsimp only at hSw); go_simp; first | done | with_reducible rfl)
        try simp only [List.getElem_toArray, List.getElem_cons_zero, List.getElem_cons_succ, Act.put, List.setIfInBounds_toArray, List.set_cons_zero, List.set_cons_succ]
        refine wpAnyH_take (i := 3) (v := ?_) rfl (by kernel_rfl) (by kernel_rfl) (by kernel_rfl) (fun _ _ _ h => h) (Or.inl ⟨by rfl, ?_⟩) (by assumption) ?_
        rotate_left
        · (intro w hSw; (try dsimp only at hSw); go_simp; first | done | with_reducible rfl)
        try simp only [List.getElem_toArray, List.getElem_cons_zero, List.getElem_cons_succ, Act.put, List.setIfInBounds_toArray, List.set_cons_zero, List.set_cons_succ]
        refine wpAnyH_take (i := 4) (v := ?_) rfl (by kernel_rfl) (by kernel_rfl) (by kernel_rfl) (fun _ _ _ h => h) (Or.inl ⟨by rfl, ?_⟩) (by assumption) ?_
        rotate_left
        · (intro w hSw; (try dsimp only at hSw); go_simp; first | done | with_reducible rfl)
        try simp only [List.getElem_toArray, List.getElem_cons_zero, List.getElem_cons_succ, Act.put, List.setIfInBounds_toArray, List.set_cons_zero, List.set_cons_succ]
        refine wpAnyH_take (i := 5) (v := ?_) rfl (by kernel_rfl) (by kernel_rfl) (by kernel_rfl) (fun _ _ _ h => h) (Or.inl ⟨by rfl, ?_⟩) (by assumption) ?_
        rotate_left
        · (intro w hSw; (try dsimp only at hSw); go_simp; first | done | with_reducible rfl)
        try simp only [List.getElem_toArray, List.getElem_cons_zero, List.getElem_cons_succ, Act.put, List.setIfInBounds_toArray, List.set_cons_zero, List.set_cons_succ]
        refine wpAnyH_take (i := 6) (v := ?_) rfl (by kernel_rfl) (by kernel_rfl) (by kernel_rfl) (fun _ _ _ h => h) (Or.inl ⟨by rfl, ?_⟩) (by assumption) ?_
        rotate_left
        · (intro w hSw; (try dsimp only at hSw); go_simp; first | done | with_reducible rfl)
        try simp only [List.getElem_toArray, List.getElem_cons_zero, List.getElem_cons_succ, Act.put, List.setIfInBounds_toArray, List.set_cons_zero, List.set_cons_succ]
        refine wpAnyH_take (i := 8) (v := ?_) rfl (by kernel_rfl) (by kernel_rfl) (by kernel_rfl) (fun _ _ _ h => h) (Or.inl ⟨by rfl, ?_⟩) (by assumption) ?_
        rotate_left
        · (intro w hSw; (try dsimp only at hSw); go_simp; first | done | with_reducible rfl)
        try simp only [List.getElem_toArray, List.getElem_cons_zero, List.getElem_cons_succ, Act.put, List.setIfInBounds_toArray, List.set_cons_zero, List.set_cons_succ]
        refine wpAnyH_take (i := 9) (v := ?_) rfl (by kernel_rfl) (by kernel_rfl) (by kernel_rfl) (fun _ _ _ h => h) (Or.inl ⟨by rfl, ?_⟩) (by assumption) ?_
        rotate_left
        · (intro w hSw; (try dsimp only at hSw); go_simp; first | done | with_reducible rfl)
        try simp only [List.getElem_toArray, List.getElem_cons_zero, List.getElem_cons_succ, Act.put, List.setIfInBounds_toArray, List.set_cons_zero, List.set_cons_succ]
        refine wpAnyH_take (i := 10) (v := ?_) rfl (by kernel_rfl) (by kernel_rfl) (by kernel_rfl) (fun _ _ _ h => h) (Or.inl ⟨by rfl, ?_⟩) (by assumption) ?_
        rotate_left
        · (intro w hSw; (try dsimp only at hSw); go_simp; first | done | with_reducible rfl)
        try simp only [List.getElem_toArray, List.getElem_cons_zero, List.getElem_cons_succ, Act.put, List.setIfInBounds_toArray, List.set_cons_zero, List.set_cons_succ]
        refine wpAnyH_take (i := 11) (v := ?_) rfl (by kernel_rfl) (by kernel_rfl) (by kernel_rfl) (fun _ _ _ h => h) (Or.inl ⟨by rfl, ?_⟩) (by assumption) ?_
        rotate_left
        · (intro w hSw; (try dsimp only at hSw); go_simp; first | done | with_reducible rfl)
        try simp only [List.getElem_toArray, List.getElem_cons_zero, List.getElem_cons_succ, Act.put, List.setIfInBounds_toArray, List.set_cons_zero, List.set_cons_succ]
        refine wpAnyH_ready (rs := [2]) (by kernel_rfl) (by simp) ?_
        refine AllReadyH.cons rfl (fun K hK => ?_) AllReadyH.nil
        go_simp
        (go_at_call 13; (with_reducible refine (GH.out _ hHeld).mono ?_); rintro e u1 ⟨rfl, hbq⟩; have hb1' := below_step hHeld hbq.below; have hq := hb1'; clear hbq)
        go_wp2_with fail
        refine hK.out _ _ ?_ (fun hHeldN => ?_)
        · (try dsimp only); (first | (with_reducible exact below_step (by assumption) hb1') | (repeat' (first | (with_reducible exact Below.refl _ _) | (with_reducible assumption) | (with_reducible exact Below.size (by assumption)) | (with_reducible refine Below.drew ?_))))
        clear hK K hHeld
        try clear hb1' hq
        have hHeld := hHeldN
        clear hHeldN
        try simp only [List.getElem_toArray, List.getElem_cons_zero, List.getElem_cons_succ, Act.put, List.setIfInBounds_toArray, List.set_cons_zero, List.set_cons_succ]
        refine wpAnyH_take (i := 7) (v := ?_) rfl (by kernel_rfl) (by kernel_rfl) (by kernel_rfl) (fun _ _ _ h => h) (Or.inl ⟨by rfl, ?_⟩) (by assumption) ?_
        rotate_left
        · (intro w hSw; (try dsimp only at hSw); go_simp; first | done | with_reducible rfl)
        try simp only [List.getElem_toArray, List.getElem_cons_zero, List.getElem_cons_succ, Act.put, List.setIfInBounds_toArray, List.set_cons_zero, List.set_cons_succ]
        refine wpAnyH_take (i := 12) (v := ?_) rfl (by kernel_rfl) (by kernel_rfl) (by kernel_rfl) (fun _ _ _ h => h) (Or.inl ⟨by rfl, ?_⟩) (by assumption) ?_
        rotate_left
        · (intro w hSw; (try dsimp only at hSw); go_simp; first | done | with_reducible rfl)
        try simp only [List.getElem_toArray, List.getElem_cons_zero, List.getElem_cons_succ, Act.put, List.setIfInBounds_toArray, List.set_cons_zero, List.set_cons_succ]
        refine wpAnyH_done (by kernel_rfl) ?_ _
        go_wp2_with fail
        go_ret
        exact ⟨congrArg (fun b => Ending.returned (.bool b)) E.out, below_step HW.out (below_step HB.out (by assumption))⟩
    · obtain rfl : k = 9 := by omega
      go_wp2_with fail
      go_ret
      exact ⟨congrArg (fun b => Ending.returned (.bool b)) HR.out.symm, below_step HW.out hB⟩
end Go.Proofs.YtjeligbgcofaeaaDoor
