/- Package head: Header.Cmp. -/
import Derived.Test.YtjeligbgcofaeaaDoorHdC
import Derived.Sort.Grow
namespace Go.Proofs.YtjeligbgcofaeaaDoor
open Go.RowKit
set_option linter.unusedVariables false
set_option linter.unusedSimpArgs false

def keyH (h : Hdr) : List Int := [getN h 0, getN h 1, getN h 2, getN h 3, getN h 4, getN h 5, getN h 6, getN h 7, getN h 8]
def cmpL : List Int → List Int → Int
  | [], [] => 0
  | [], _ :: _ => -1
  | _ :: _, [] => 1
  | x :: xs, y :: ys => if x < y then -1 else if y < x then 1 else cmpL xs ys
def cmpH (h g : Hdr) : Int := cmpL (keyH h) (keyH g)
theorem keyH_get (h : Hdr) {k : Nat} (hk : k < 9) : (keyH h)[k]? = some (getN h k) := by
  match k, hk with
  | 0, _ => rfl
  | 1, _ => rfl
  | 2, _ => rfl
  | 3, _ => rfl
  | 4, _ => rfl
  | 5, _ => rfl
  | 6, _ => rfl
  | 7, _ => rfl
  | 8, _ => rfl
theorem cmpL_take : ∀ {k : Nat} {xs ys : List Int}, xs.take k = ys.take k → cmpL xs ys = cmpL (xs.drop k) (ys.drop k)
  | 0, _, _, _ => rfl
  | k + 1, [], [], _ => rfl
  | k + 1, [], y :: ys, h => by simp at h
  | k + 1, x :: xs, [], h => by simp at h
  | k + 1, x :: xs, y :: ys, h => by
    simp at h
    obtain ⟨rfl, h⟩ := h
    rw [cmpL, if_neg (by omega), if_neg (by omega)]
    exact cmpL_take (k := k) h
theorem cmpL_self : ∀ xs : List Int, cmpL xs xs = 0
  | [] => rfl
  | x :: xs => by rw [cmpL, if_neg (by omega), if_neg (by omega)]; exact cmpL_self xs
theorem drop_at {α : Type} {l : List α} {k : Nat} {x : α} (h : l[k]? = some x) : l.drop k = x :: l.drop (k + 1) := by
  obtain ⟨h1, h2⟩ := List.getElem?_eq_some_iff.1 h
  rw [List.drop_eq_getElem_cons h1, h2]
theorem Grn.form {w w' : World} (h : Grn w w') : ∃ q os, w' = Go.Sort.grow (w.drewN q) os := by
  obtain ⟨⟨h1, h2, h3, h4, h5⟩, h6⟩ := h
  refine ⟨w'.drawn - w.drawn, (w'.heap.toList.drop w.heap.size).toArray, ?_⟩
  cases w with
  | mk heap tape drawn os output =>
    cases w' with
    | mk heap' tape' drawn' os' output' =>
      simp only at h1 h2 h3 h4 h5 h6
      subst h1 h2 h3
      simp only [Go.Sort.grow, World.drewN]
      congr 1
      · apply Array.ext_getElem?
        intro i
        rw [Array.getElem?_append]
        split
        · rename_i hi
          exact h5 i hi
        · rename_i hi
          simp only [List.getElem?_toArray, List.getElem?_drop]
          rw [show heap.size + (i - heap.size) = i by omega]
          simp
      · omega
set_option maxRecDepth 100000 in
set_option maxHeartbeats 8000000 in
theorem hd_Cmp (h g : Hdr) (w : World) (hT : Tab w) (hf : h.Fits) (hg : g.Fits) :
    Calls Tryd.prog 56 #[.agg h.vals.toArray, .agg g.vals.toArray] w fun e w' => e = .returned (.int .i64 (cmpH h g)) ∧ Grn w w' := by
  have hb1 : Blk ((w.alloc (.cells h.vals.toArray 31)).alloc (.cells g.vals.toArray 31)) w.heap.size 31 h.vals.toArray := (Blk.new w _ _).below ((Below.refl _ _).alloc (Nat.le_refl _) _) (by simp)
  have hb2 : Blk ((w.alloc (.cells h.vals.toArray 31)).alloc (.cells g.vals.toArray 31)) (w.heap.size + 1) 31 g.vals.toArray := by
    have := Blk.new (w.alloc (.cells h.vals.toArray 31)) 31 g.vals.toArray
    simpa using this
  have HS : Hid (Grn w ((w.alloc (.cells h.vals.toArray 31)).alloc (.cells g.vals.toArray 31)) ∧ Blk _ _ _ _ ∧ Blk _ _ _ _) := Lib.hid ⟨((Grn.refl _).alloc _).alloc _, hb1, hb2⟩
  have HT := Lib.hid hT
  have HG1 := Lib.hid (fun (f : Int) (k : Nat) (hfk : f = k) (hk : k < 9) W (hW : Grn w W) => (show Calls Tryd.prog 13 #[.agg h.vals.toArray, .int .i64 f] W _ from hfk ▸ hd_Get h k W (hT.below hW.below) hf hk))
  have HG2 := Lib.hid (fun (f : Int) (k : Nat) (hfk : f = k) (hk : k < 9) W (hW : Grn w W) => (show Calls Tryd.prog 13 #[.agg g.vals.toArray, .int .i64 f] W _ from hfk ▸ hd_Get g k W (hT.below hW.below) hg hk))
  obtain ⟨hv, hhv⟩ : ∃ hv, hv = h.vals := ⟨_, rfl⟩
  obtain ⟨gv, hgv⟩ : ∃ gv, gv = g.vals := ⟨_, rfl⟩
  clear hT hb1 hb2
  go_enter Tryd.func56, Tryd.ntmps56
  go_upto_region 1 with fail
  refine wp_gen (fun W => Grn w W ∧ Blk W w.heap.size 31 h.vals.toArray ∧ Blk W (w.heap.size + 1) 31 g.vals.toArray) HS.out ?_
  rintro W ⟨hgW, k1, k2⟩
  have HW := Lib.hid hgW
  have HR1 := Lib.hid (fun w' (q : Grn W w') => (k1.below q.below k1.lt).range)
  have HR2 := Lib.hid (fun w' (q : Grn W w') => (k2.below q.below k2.lt).range)
  clear hgW k1 k2 HS
  go_wp2_with fail
  go_loopw [8] (fun i wr => ∃ k : Nat, k ≤ 9 ∧ i = .int .i64 k ∧ Hid ((keyH h).take k = (keyH g).take k) ∧ Grn W wr) (fun i _ => 9 - (intOf i).toNat)
  case atStart => exact ⟨0, by omega, rfl, Lib.hid rfl, Grn.refl _⟩
  case round =>
    obtain ⟨k, hk, rfl, HK, hB⟩ := hrel
    by_cases hlt : k < 9
    · obtain ⟨x, hx⟩ : ∃ x, x = getN h k := ⟨_, rfl⟩
      obtain ⟨y, hy⟩ : ∃ y, y = getN g k := ⟨_, rfl⟩
      have hkh := keyH_get h hlt
      have hkg := keyH_get g hlt
      rw [← hx] at hkh
      rw [← hy] at hkg
      have C1 := Lib.hid (fun w' (q : Grn wr w') => HG1.out (k : Int) k rfl hlt w' (HW.out.trans (hB.trans q)))
      have C2 := Lib.hid (fun w' (q : Grn wr w') => HG2.out (k : Int) k rfl hlt w' (HW.out.trans (hB.trans q)))
      rw [← hx] at C1
      rw [← hy] at C2
      have R1 := Lib.hid (fun w' (q : Grn wr w') => HR1.out w' (hB.trans q))
      have R2 := Lib.hid (fun w' (q : Grn wr w') => HR2.out w' (hB.trans q))
      have HKH := Lib.hid hkh
      have HKG := Lib.hid hkg
      have HC := Lib.hid (show cmpH h g = if x < y then -1 else if y < x then 1 else cmpL ((keyH h).drop (k + 1)) ((keyH g).drop (k + 1)) by unfold cmpH; rw [cmpL_take HK.out, drop_at hkh, drop_at hkg, cmpL])
      have hB' := Lib.hid hB
      clear hx hy hkh hkg hB
      go_upto_region 4 with fail
      go_cut [6, 7] (fun a b wx => a = .int .u64 x ∧ b = .int .u64 y ∧ Grn wr wx)
      case first =>
        as_aux_lemma =>
        refine wp_region_held_drew (S := (fun w' => Grn wr w')) (by kernel_rfl) ?_ (fun hHeld => ?_)
        · (try dsimp only); (first | (with_reducible assumption) | exact (Grn.refl _).drew)
        refine wpAnyH_take (i := 0) (v := _) rfl (by kernel_rfl) (by kernel_rfl) (by kernel_rfl) (fun _ _ _ h => h) (yieldsIf_load_mid (by rfl) _ _ rfl _ _ rfl h.vals _ (fun w' q => R1.out w' q) Tryd.underlying31 rfl (by kernel_rfl)) (by assumption) ?_
        try simp only [List.getElem_toArray, List.getElem_cons_zero, List.getElem_cons_succ, Act.put, List.setIfInBounds_toArray, List.set_cons_zero, List.set_cons_succ]
        refine wpAnyH_take (i := 1) (v := ?_) rfl (by kernel_rfl) (by kernel_rfl) (by kernel_rfl) (fun _ _ _ h => h) (Or.inl ⟨by rfl, ?_⟩) (by assumption) ?_
        rotate_left
        · (intro w hSw; (try dsimp only at hSw); go_simp; first | done | with_reducible rfl)
        try simp only [List.getElem_toArray, List.getElem_cons_zero, List.getElem_cons_succ, Act.put, List.setIfInBounds_toArray, List.set_cons_zero, List.set_cons_succ]
        refine wpAnyH_take (i := 3) (v := _) rfl (by kernel_rfl) (by kernel_rfl) (by kernel_rfl) (fun _ _ _ h => h) (yieldsIf_load_mid (by rfl) _ _ rfl _ _ rfl g.vals _ (fun w' q => R2.out w' q) Tryd.underlying31 rfl (by kernel_rfl)) (by assumption) ?_
        try simp only [List.getElem_toArray, List.getElem_cons_zero, List.getElem_cons_succ, Act.put, List.setIfInBounds_toArray, List.set_cons_zero, List.set_cons_succ]
        refine wpAnyH_take (i := 4) (v := ?_) rfl (by kernel_rfl) (by kernel_rfl) (by kernel_rfl) (fun _ _ _ h => h) (Or.inl ⟨by rfl, ?_⟩) (by assumption) ?_
        rotate_left
        · (intro w hSw; (try dsimp only at hSw); go_simp; first | done | with_reducible rfl)
        try simp only [List.getElem_toArray, List.getElem_cons_zero, List.getElem_cons_succ, Act.put, List.setIfInBounds_toArray, List.set_cons_zero, List.set_cons_succ]
        refine wpAnyH_ready (rs := [2]) (by kernel_rfl) (by simp) ?_
        refine AllReadyH.cons rfl (fun K hK => ?_) AllReadyH.nil
        go_simp
        ((go_at_call 13); (with_reducible refine (C1.out _ hHeld).mono ?_); rintro e u1 ⟨rfl, hb1'⟩; have hq : Grn wr u1 := Grn.trans hHeld hb1')
        go_wp2_with fail
        refine hK.out _ _ ?_ (fun hHeldN => ?_)
        · (try dsimp only); (first | (with_reducible assumption) | exact (Grn.refl _).drew)
        clear hK K hHeld
        try clear hb1' hq
        have hHeld := hHeldN
        clear hHeldN
        try simp only [List.getElem_toArray, List.getElem_cons_zero, List.getElem_cons_succ, Act.put, List.setIfInBounds_toArray, List.set_cons_zero, List.set_cons_succ]
        refine wpAnyH_ready (rs := [5]) (by kernel_rfl) (by simp) ?_
        refine AllReadyH.cons rfl (fun K hK => ?_) AllReadyH.nil
        go_simp
        ((go_at_call 13); (with_reducible refine (C2.out _ hHeld).mono ?_); rintro e u1 ⟨rfl, hb1'⟩; have hq : Grn wr u1 := Grn.trans hHeld hb1')
        go_wp2_with fail
        refine hK.out _ _ ?_ (fun hHeldN => ?_)
        · (try dsimp only); (first | (with_reducible assumption) | exact (Grn.refl _).drew)
        clear hK K hHeld
        try clear hb1' hq
        have hHeld := hHeldN
        clear hHeldN
        try simp only [List.getElem_toArray, List.getElem_cons_zero, List.getElem_cons_succ, Act.put, List.setIfInBounds_toArray, List.set_cons_zero, List.set_cons_succ]
        refine wpAnyH_take (i := 6) (v := ?_) rfl (by kernel_rfl) (by kernel_rfl) (by kernel_rfl) (fun _ _ _ h => h) (Or.inl ⟨by rfl, ?_⟩) (by assumption) ?_
        rotate_left
        · (intro w hSw; (try dsimp only at hSw); go_simp; first | done | with_reducible rfl)
        try simp only [List.getElem_toArray, List.getElem_cons_zero, List.getElem_cons_succ, Act.put, List.setIfInBounds_toArray, List.set_cons_zero, List.set_cons_succ]
        refine wpAnyH_take (i := 7) (v := ?_) rfl (by kernel_rfl) (by kernel_rfl) (by kernel_rfl) (fun _ _ _ h => h) (Or.inl ⟨by rfl, ?_⟩) (by assumption) ?_
        rotate_left
        · (intro w hSw; (try dsimp only at hSw); go_simp; first | done | with_reducible rfl)
        try simp only [List.getElem_toArray, List.getElem_cons_zero, List.getElem_cons_succ, Act.put, List.setIfInBounds_toArray, List.set_cons_zero, List.set_cons_succ]
        refine wpAnyH_done (by kernel_rfl) ?_ _
        go_wp2_with fail
        go_meet
        exact ⟨rfl, rfl, by assumption⟩
      case rest =>
      obtain ⟨rfl, rfl, hB2⟩ := hcut
      have hB3 := Lib.hid (hB'.out.trans hB2)
      clear hB2
      rcases Int.lt_trichotomy x y with hxy | hxy | hxy
      · have E : Hid (cmpH h g = -1) := Lib.hid (by rw [HC.out, if_pos hxy])
        have d1 : decide (x < y) = true := decide_eq_true hxy
        go_wp2_with fail
        go_ret
        exact ⟨ret_int E.out.symm, HW.out.trans hB3.out⟩
      · subst hxy
        have HN : Hid ((keyH h).take (k + 1) = (keyH g).take (k + 1)) := Lib.hid (by rw [take_snoc HKH.out, take_snoc HKG.out, HK.out])
        have d1 : decide (x < x) = false := decide_eq_false (by omega)
        go_wp2_with fail
        go_roundw
        case rel => exact ⟨k + 1, by omega, by go_num, HN, hB3.out⟩
        case measure => simp [intOf]; omega
      · have E : Hid (cmpH h g = 1) := Lib.hid (by rw [HC.out, if_neg (by omega), if_pos hxy])
        have d1 : decide (x < y) = false := decide_eq_false (by omega)
        have d2 : decide (x > y) = true := decide_eq_true hxy
        go_wp2_with fail
        go_ret
        exact ⟨ret_int E.out.symm, HW.out.trans hB3.out⟩
    · have E : Hid (cmpH h g = 0) := by
        have h1 := HK.out
        rw [List.take_of_length_le (by simp [keyH]; omega), List.take_of_length_le (by simp [keyH]; omega)] at h1
        exact Lib.hid (by unfold cmpH; rw [h1]; exact cmpL_self _)
      go_wp2_with fail
      go_ret
      exact ⟨ret_int E.out.symm, HW.out.trans hB⟩
end Go.Proofs.YtjeligbgcofaeaaDoor
