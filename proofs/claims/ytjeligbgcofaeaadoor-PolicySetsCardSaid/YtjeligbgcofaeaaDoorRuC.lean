/- Package rules: Act.Apply. -/
import Derived.Test.YtjeligbgcofaeaaDoorRuB
namespace Go.Proofs.YtjeligbgcofaeaaDoor
open Go.RowKit
set_option linter.unusedVariables false
set_option linter.unusedSimpArgs false

/-- in a drawn region: a load of a struct, and a store of one into a whole block, carried out in their place -/
theorem step_load_row {P : Program} {w : World} {ops : Array Oper} {o : Oper} {a : Act} {K : Act → World → Prop} {Q : Exit → Act → World → Prop} {E : Prop} (hgd : o.guard = none) (ty : TypeId) (x : Operand) (ho : o.op = .load ty x)
    (b off : Nat) (hx : a.eval x = .pointer (some ⟨b, off, none⟩)) (cs : List Value) (d : TypeDesc) (hc : w.rangeAt b off cs) (hu : P.underlying ty = some d) (hd : d.isRow = true) (hi : (P.info? ty).map (·.size) = some cs.length)
    (h : K (a.put o.dst (.agg cs.toArray)) w) : if Region.wanted o (yielded ops a.tmps) = true then Oper.wp P o a w K Q else E := by
  have hw : Region.wanted o (yielded ops a.tmps) = true := by simp [Region.wanted, hgd]
  rw [if_pos hw]
  exact wp_load_mid ty x ho b off hx cs d hc hu hd hi h
theorem step_store_row {P : Program} {w : World} {ops : Array Oper} {o : Oper} {a : Act} {K : Act → World → Prop} {Q : Exit → Act → World → Prop} {E : Prop} (hgd : o.guard = none) (ty : TypeId) (x y : Operand) (ho : o.op = .store ty x y)
    (g : Nat) (t : TypeId) (cur : Array Value) (cs : List Value) (hx : a.eval x = .pointer (some ⟨g, 0, none⟩)) (hy : a.eval y = .agg cs.toArray)
    (hb : Blk w g t cur) (hsz : cur.size = cs.length) (hi : (P.info? ty).map (·.size) = some cs.length) (h1 : ∀ u ∈ cs, u.oneCell' = true)
    (h : ∀ w', Blk w' g t cs.toArray → w.grownBy w' (some g) → K (a.put o.dst undef) w') : if Region.wanted o (yielded ops a.tmps) = true then Oper.wp P o a w K Q else E := by
  have hw : Region.wanted o (yielded ops a.tmps) = true := by simp [Region.wanted, hgd]
  rw [if_pos hw]
  have hr := run_storeVar_row (P := P) w g t ty cur cs.toArray hb.heap (by simpa using hi) (by simpa using hsz) (all_oneCell_toArray h1)
  unfold Oper.wp execOp
  simp only [ho, hx, hy, Instr.storeAt, Instr.sureAddr, Sem.run_bind, Sem.run_pure, Result.andThen_ok, hr]
  exact h _ ⟨setRow_heap w g cur _ t _ hb.heap⟩ ⟨rfl, rfl, rfl, by simp, fun k _ hk => setRow_other w g k _ (fun e => hk (by simp [e]))⟩
def applyN (a : Act9) (h : Hdr) : Nat → Hdr
  | 0 => h
  | k + 1 => if bitB a.set k then withH (applyN a h k) k (a.val k) else applyN a h k
def applyH (a : Act9) (h : Hdr) : Hdr := applyN a h 9
theorem ofB_bd (n : Int) (i k : Nat) : 0 ≤ ofB n i k ∧ ofB n i k ≤ 255 := by
  unfold ofB
  split
  · omega
  · omega
theorem ofMac_fits (n : Int) : (ofMac n).Fits := by
  intro b hb
  simp only [ofMac, Mac6.l, List.mem_cons, List.not_mem_nil, or_false] at hb
  rcases hb with rfl | rfl | rfl | rfl | rfl | rfl <;> exact ofB_bd _ _ _
theorem fullN_bd {k : Nat} (hk : k < 9) : fullN k ≤ 281474976710655 := by
  have hp : 2 ^ widthN k ≤ 2 ^ 48 := Nat.pow_le_pow_right (by omega) (widthN_bd hk).2
  have h48 : (2 : Nat) ^ 48 = 281474976710656 := rfl
  unfold fullN
  omega
theorem withH_fits {h : Hdr} (hf : h.Fits) {k : Nat} {n : Int} (hk : k < 9) (h0 : 0 ≤ n) (h1 : n ≤ fullN k) : (withH h k n).Fits := by
  have hb := fullN_bd hk
  have e4 : fullN 4 = 4294967295 := rfl
  have e5 : fullN 5 = 4294967295 := rfl
  obtain ⟨f0, f1, f2, f3, f4, f5, f6, f7, f8⟩ := hf
  match k, hk with
  | 0, _ => exact ⟨⟨by show _ ≤ n; omega, by show n ≤ _; omega⟩, f1, f2, f3, f4, f5, f6, f7, f8⟩
  | 1, _ => exact ⟨f0, ofMac_fits n, f2, f3, f4, f5, f6, f7, f8⟩
  | 2, _ => exact ⟨f0, f1, ofMac_fits n, f3, f4, f5, f6, f7, f8⟩
  | 3, _ => exact ⟨f0, f1, f2, ⟨by show _ ≤ n; omega, by show n ≤ _; omega⟩, f4, f5, f6, f7, f8⟩
  | 4, _ => exact ⟨f0, f1, f2, f3, ⟨by show _ ≤ n; omega, by show n ≤ _; omega⟩, f5, f6, f7, f8⟩
  | 5, _ => exact ⟨f0, f1, f2, f3, f4, ⟨by show _ ≤ n; omega, by show n ≤ _; omega⟩, f6, f7, f8⟩
  | 6, _ => exact ⟨f0, f1, f2, f3, f4, f5, ⟨by show _ ≤ n; omega, by show n ≤ _; omega⟩, f7, f8⟩
  | 7, _ => exact ⟨f0, f1, f2, f3, f4, f5, f6, ⟨by show _ ≤ n; omega, by show n ≤ _; omega⟩, f8⟩
  | 8, _ => exact ⟨f0, f1, f2, f3, f4, f5, f6, f7, ⟨by show _ ≤ n; omega, by show n ≤ _; omega⟩⟩
/-- what right says -/
structure Act9.Right (a : Act9) : Prop where
  lo : 0 ≤ a.set
  hi : a.set ≤ 511
  val : ∀ k, k < 9 → 0 ≤ a.val k ∧ a.val k ≤ fullN k
  off : ∀ k, k < 9 → bitB a.set k = false → a.val k = 0
theorem right_iff {a : Act9} (ha : a.Fits) : rightA a = true ↔ a.Right := by
  unfold rightA
  simp only [Bool.and_eq_true, decide_eq_true_eq, List.all_eq_true, List.mem_range, okB, Bool.or_eq_true]
  constructor
  · rintro ⟨⟨h1, h2⟩, h3⟩
    refine ⟨h1, h2, fun k hk => ⟨(ha.val k).1, (h3 k hk).2⟩, fun k hk e => ?_⟩
    rcases (h3 k hk).1 with h | h
    · rw [h] at e; cases e
    · exact h
  · rintro ⟨h1, h2, h3, h4⟩
    refine ⟨⟨h1, h2⟩, fun k hk => ⟨?_, (h3 k hk).2⟩⟩
    cases e : bitB a.set k
    · exact Or.inr (h4 k hk e)
    · exact Or.inl rfl
theorem applyN_fits {a : Act9} {h : Hdr} (ha : a.Right) (hf : h.Fits) : ∀ k, k ≤ 9 → (applyN a h k).Fits
  | 0, _ => hf
  | k + 1, hk => by
    rw [applyN]
    split
    · exact withH_fits (applyN_fits ha hf k (by omega)) (by omega) (ha.val k (by omega)).1 (ha.val k (by omega)).2
    · exact applyN_fits ha hf k (by omega)
def ApplyW (w W : World) (a : Act9) (h r : Hdr) : Prop := Below w.heap.size w W ∧ Blk W w.heap.size 25 a.vals.toArray ∧ Blk W (w.heap.size + 1) 31 h.vals.toArray ∧ Blk W (w.heap.size + 2) 31 r.vals.toArray
set_option maxRecDepth 100000 in
set_option maxHeartbeats 8000000 in
theorem act_Apply (a : Act9) (h : Hdr) (w : World) (hT : Tab w) (ha : a.Right) (hf : h.Fits) :
    Calls Tryd.prog 12 #[.agg a.vals.toArray, .agg h.vals.toArray] w fun e w' => e = .returned (.agg (applyH a h).vals.toArray) ∧ Below w.heap.size w w' := by
  have HX : Hid (ApplyW w (((w.alloc (.cells a.vals.toArray 25)).alloc (.cells h.vals.toArray 31)).alloc (.cells zeroH.vals.toArray 31)) a h zeroH) := by
    have b1 := Blk.new w 25 a.vals.toArray
    have l1 := (Below.refl w.heap.size w).alloc (Nat.le_refl _) (.cells a.vals.toArray 25)
    generalize hW1 : w.alloc (.cells a.vals.toArray 25) = W1 at b1 l1 ⊢
    have s1 : W1.heap.size = w.heap.size + 1 := by rw [← hW1]; simp
    have b2 := Blk.new W1 31 h.vals.toArray
    have l2 := (Below.refl W1.heap.size W1).alloc (Nat.le_refl _) (.cells h.vals.toArray 31)
    generalize hW2 : W1.alloc (.cells h.vals.toArray 31) = W2 at b2 l2 ⊢
    have s2 : W2.heap.size = w.heap.size + 2 := by rw [← hW2]; simp [s1]
    have b3 := Blk.new W2 31 zeroH.vals.toArray
    have l3 := (Below.refl W2.heap.size W2).alloc (Nat.le_refl _) (.cells zeroH.vals.toArray 31)
    rw [s1] at b2
    rw [s2] at b3
    exact Lib.hid ⟨below_step l1 (below_step l2 l3), (b1.below l2 (by omega)).below l3 (by omega), b2.below l3 (by omega), b3⟩
  have HT := Lib.hid hT
  have HA := Lib.hid ha
  have HF := Lib.hid hf
  clear hT ha hf
  go_enter Tryd.func12, Tryd.ntmps12
  go_upto_region 1 with fail
  refine wp_gen (fun W => ApplyW w W a h zeroH) HX.out ?_
  rintro W hW
  have HW := Lib.hid hW
  clear hW HX
  go_wp2_with fail
  go_loopw [6] (fun i wr => ∃ k : Nat, k ≤ 9 ∧ i = .int .i64 k ∧ Hid (ApplyW w wr a (applyN a h k) zeroH)) (fun i _ => 9 - (intOf i).toNat)
  case atStart => exact ⟨0, by omega, rfl, HW⟩
  case round =>
    obtain ⟨k, hk, rfl, HR⟩ := hrel
    by_cases hlt : k < 9
    · have hk0 : (0 : Int) ≤ (k : Int) := by omega
      have hk9 : (k : Int) < 9 := by omega
      have hk64 : (k : Int) ≤ 64 := by omega
      have hm64 : min k 64 = k := by omega
      have hs0 := HA.out.lo
      have hs1 := HA.out.hi
      have e0 : wr.cell? ⟨w.heap.size, 0, none⟩ = some (.int .i64 a.set) := HR.out.2.1.cell 0
      by_cases hb : bitB a.set k = true
      · have hbit : bits .and .i64 (a.set / 2 ^ k) 1 = 1 := by rw [bit_i64 hs0 hs1, if_pos hb]
        have hgr : wr.grownBy wr.drew (some (w.heap.size + 1)) := ⟨rfl, rfl, rfl, by simp, fun _ _ _ => rfl⟩
        have e2 : ∀ w', wr.grownBy w' (some (w.heap.size + 1)) → w'.cell? ⟨w.heap.size, 1 + k, none⟩ = some (.int .u64 (a.val k)) := fun w' q => ((HR.out.2.1.grown q (by omega)).cell (1 + k)).trans (a.cell hlt)
        have HC := Lib.hid (fun W2 (q : Tab W2) => hd_WithOk (applyN a h k) k (a.val k) W2 q (applyN_fits HA.out HF.out k hk) hlt (HA.out.val k hlt).1 (HA.out.val k hlt).2)
        obtain ⟨g, hg⟩ : ∃ g, g = applyN a h k := ⟨_, rfl⟩
        have HN : Hid (applyN a h (k + 1) = withH g k (a.val k)) := Lib.hid (by rw [applyN, if_pos hb, hg])
        rw [← hg] at HR HC
        obtain ⟨g', hg'⟩ : ∃ g', g' = withH g k (a.val k) := ⟨_, rfl⟩
        rw [← hg'] at HN HC
        obtain ⟨v, hv⟩ : ∃ v, v = a.val k := ⟨_, rfl⟩
        rw [← hv] at e2 HC
        clear hg hg' hv
        go_upto_region 5 with fail
        refine wp_region_held_drew (S := (fun w' => wr.grownBy w' (some (w.heap.size + 1)))) (by kernel_rfl) ?_ (fun hHeld => ?_)
        · (try dsimp only); (with_reducible first | exact hgr | exact hgd | exact hge)
        refine wpAnyH_take (i := 1) (v := ?_) rfl (by kernel_rfl) (by kernel_rfl) (by kernel_rfl) (fun _ _ _ h => h) (Or.inl ⟨by rfl, ?_⟩) (by assumption) ?_
        rotate_left
        · (intro w hSw; (try dsimp only at hSw); go_simp; first | done | with_reducible rfl)
        try simp only [List.getElem_toArray, List.getElem_cons_zero, List.getElem_cons_succ, Act.put, List.setIfInBounds_toArray, List.set_cons_zero, List.set_cons_succ]
        refine wpAnyH_take (i := 2) (v := ?_) rfl (by kernel_rfl) (by kernel_rfl) (by kernel_rfl) (fun _ _ _ h => h) (Or.inl ⟨by rfl, ?_⟩) (by assumption) ?_
        rotate_left
        · (intro w hSw; (try dsimp only at hSw); go_simp; first | done | with_reducible rfl)
        try simp only [List.getElem_toArray, List.getElem_cons_zero, List.getElem_cons_succ, Act.put, List.setIfInBounds_toArray, List.set_cons_zero, List.set_cons_succ]
        refine wpAnyH_take (i := 3) (v := ?_) rfl (by kernel_rfl) (by kernel_rfl) (by kernel_rfl) (fun _ _ _ h => h) (Or.inl ⟨by rfl, ?_⟩) (by assumption) ?_
        rotate_left
        · (intro w hSw; (try dsimp only at hSw); go_simp; first | done | with_reducible rfl)
        try simp only [List.getElem_toArray, List.getElem_cons_zero, List.getElem_cons_succ, Act.put, List.setIfInBounds_toArray, List.set_cons_zero, List.set_cons_succ]
        refine wpAnyH_take (i := 4) (v := ?_) rfl (by kernel_rfl) (by kernel_rfl) (by kernel_rfl) (fun _ _ _ h => h) (Or.inl ⟨by rfl, ?_⟩) (by assumption) ?_
        rotate_left
        · (intro w hSw; (try dsimp only at hSw); go_simp; first | done | with_reducible rfl)
        try simp only [List.getElem_toArray, List.getElem_cons_zero, List.getElem_cons_succ, Act.put, List.setIfInBounds_toArray, List.set_cons_zero, List.set_cons_succ]
        refine wpAnyH_take (i := 5) (v := ?_) rfl (by kernel_rfl) (by kernel_rfl) (by kernel_rfl) (fun _ _ _ h => h) (Or.inl ⟨by rfl, ?_⟩) (by assumption) ?_
        rotate_left
        · (intro w hSw; (try dsimp only at hSw); go_simp; first | done | with_reducible rfl)
        try simp only [List.getElem_toArray, List.getElem_cons_zero, List.getElem_cons_succ, Act.put, List.setIfInBounds_toArray, List.set_cons_zero, List.set_cons_succ]
        refine wpAnyH_ready (rs := [0]) (by kernel_rfl) (by simp) ?_
        refine AllReadyH.cons rfl (fun K hK => ?_) AllReadyH.nil
        (refine step_load_row rfl 31 (.tmp 3) rfl (w.heap.size + 1) 0 rfl g.vals _ (HR.out.2.2.1.drew.range) Tryd.underlying31 rfl (by kernel_rfl) ?_)
        refine hK.out _ _ ?_ (fun hHeldN => ?_)
        · (try dsimp only); (with_reducible first | exact hgr | exact hgd | exact hge)
        clear hK K hHeld
        try clear hb1' hq
        have hHeld := hHeldN
        clear hHeldN
        try simp only [List.getElem_toArray, List.getElem_cons_zero, List.getElem_cons_succ, Act.put, List.setIfInBounds_toArray, List.set_cons_zero, List.set_cons_succ]
        refine wpAnyH_ready (rs := [6]) (by kernel_rfl) (by simp) ?_
        refine AllReadyH.cons rfl (fun K hK => ?_) AllReadyH.nil
        go_simp
        (go_at_call 28; (with_reducible refine (HC.out _ ?_).mono ?_); exact (HT.out.below HR.out.1.drew); rintro e u1 ⟨rfl, hq⟩; have HQ := Lib.hid hq; have hgd : wr.grownBy u1 (some (w.heap.size + 1)) := ⟨hq.os, hq.tape, hq.output, hq.size, fun j hj _ => hq.block j hj⟩; clear hq)
        go_wp2_with fail
        refine hK.out _ _ ?_ (fun hHeldN => ?_)
        · (try dsimp only); (with_reducible first | exact hgr | exact hgd | exact hge)
        clear hK K hHeld
        try clear hb1' hq
        have hHeld := hHeldN
        clear hHeldN
        try simp only [List.getElem_toArray, List.getElem_cons_zero, List.getElem_cons_succ, Act.put, List.setIfInBounds_toArray, List.set_cons_zero, List.set_cons_succ]
        refine wpAnyH_take (i := 7) (v := ?_) rfl (by kernel_rfl) (by kernel_rfl) (by kernel_rfl) (fun _ _ _ h => h) (Or.inl ⟨by rfl, ?_⟩) (by assumption) ?_
        rotate_left
        · (intro w hSw; (try dsimp only at hSw); go_simp; first | done | with_reducible rfl)
        try simp only [List.getElem_toArray, List.getElem_cons_zero, List.getElem_cons_succ, Act.put, List.setIfInBounds_toArray, List.set_cons_zero, List.set_cons_succ]
        refine wpAnyH_take (i := 8) (v := ?_) rfl (by kernel_rfl) (by kernel_rfl) (by kernel_rfl) (fun _ _ _ h => h) (Or.inl ⟨by rfl, ?_⟩) (by assumption) ?_
        rotate_left
        · (intro w hSw; (try dsimp only at hSw); go_simp; first | done | with_reducible rfl)
        try simp only [List.getElem_toArray, List.getElem_cons_zero, List.getElem_cons_succ, Act.put, List.setIfInBounds_toArray, List.set_cons_zero, List.set_cons_succ]
        refine wpAnyH_take (i := 9) (v := ?_) rfl (by kernel_rfl) (by kernel_rfl) (by kernel_rfl) (fun _ _ _ h => h) (Or.inl ⟨by rfl, ?_⟩) (by assumption) ?_
        rotate_left
        · (intro w hSw; (try dsimp only at hSw); go_simp; first | done | with_reducible rfl)
        try simp only [List.getElem_toArray, List.getElem_cons_zero, List.getElem_cons_succ, Act.put, List.setIfInBounds_toArray, List.set_cons_zero, List.set_cons_succ]
        refine wpAnyH_ready (rs := [10]) (by kernel_rfl) (by simp) ?_
        refine AllReadyH.cons rfl (fun K hK => ?_) AllReadyH.nil
        (refine step_store_row rfl 31 (.tmp 3) (.tmp 23) rfl (w.heap.size + 1) 31 _ g'.vals rfl rfl (HR.out.2.2.1.drew.below HQ.out HR.out.2.2.1.drew.lt) rfl (by kernel_rfl) (vals_one g') ?_; intro u2 hz hgg; have HZ := Lib.hid hz; have hge : wr.grownBy u2 (some (w.heap.size + 1)) := grownBy_trans hgd hgg; clear hz hgg)
        refine hK.out _ _ ?_ (fun hHeldN => ?_)
        · (try dsimp only); (with_reducible first | exact hgr | exact hgd | exact hge)
        clear hK K hHeld
        try clear hb1' hq
        have hHeld := hHeldN
        clear hHeldN
        try simp only [List.getElem_toArray, List.getElem_cons_zero, List.getElem_cons_succ, Act.put, List.setIfInBounds_toArray, List.set_cons_zero, List.set_cons_succ]
        refine wpAnyH_done (by kernel_rfl) ?_ _
        go_wp2_with fail
        go_roundw
        case rel => exact ⟨k + 1, by omega, by go_num, by rw [HN.out]; exact Lib.hid ⟨below_grown HR.out.1 hge (by omega), HR.out.2.1.grown hge (by omega), HZ.out, HR.out.2.2.2.grown hge (by omega)⟩⟩
        case measure => simp [intOf]; omega
      · have hbit : bits .and .i64 (a.set / 2 ^ k) 1 = 0 := by rw [bit_i64 hs0 hs1, if_neg hb]
        have HN : Hid (applyN a h (k + 1) = applyN a h k) := Lib.hid (by rw [applyN, if_neg hb])
        go_wp2_with fail
        go_roundw
        case rel => exact ⟨k + 1, by omega, by go_num, by rw [HN.out]; exact HR⟩
        case measure => simp [intOf]; omega
    · obtain rfl : k = 9 := by omega
      obtain ⟨g, hg⟩ : ∃ g, g = applyN a h 9 := ⟨_, rfl⟩
      have HG : Hid (applyH a h = g) := Lib.hid hg.symm
      rw [← hg] at HR
      clear hg
      have HRng := Lib.hid HR.out.2.2.1.range
      go_wp2_with (first
        | (refine wpList_load_mid rfl 31 (.tmp 3) rfl (w.heap.size + 1) 0 rfl g.vals _ HRng.out Tryd.underlying31 rfl (by kernel_rfl) ?_)
        | (refine wpList_store_blk rfl 31 (.tmp 4) (.tmp 26) rfl (w.heap.size + 2) 31 _ g.vals rfl rfl HR.out.2.2.2 rfl rfl (vals_one g) ?_; intro W3 hz hg; have HZ3 := Lib.hid hz; have HG3 := Lib.hid hg; clear hz hg)
        | fail)
      refine bodyPost_ret (results_cell_row rfl _ _ (w.heap.size + 2) 31 _ (0, 0) _ rfl HZ3.out.heap Tryd.underlying31 rfl rfl) rfl ?_
      exact ⟨by rw [HG.out], below_grown HR.out.1 HG3.out (by omega)⟩
end Go.Proofs.YtjeligbgcofaeaaDoor
