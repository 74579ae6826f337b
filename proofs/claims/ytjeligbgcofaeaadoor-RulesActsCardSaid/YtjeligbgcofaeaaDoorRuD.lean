/- Package rules: Act.Then. -/
import Derived.Test.YtjeligbgcofaeaaDoorRuC
namespace Go.Proofs.YtjeligbgcofaeaaDoor
open Go.RowKit
set_option linter.unusedVariables false
set_option linter.unusedSimpArgs false

def orI (s : Int) (k : Nat) : Int := ((s.toNat ||| 2 ^ k : Nat) : Int)
theorem orI_bd {s : Int} {k : Nat} (h0 : 0 ≤ s) (h1 : s ≤ 511) (hk : k < 9) : 0 ≤ orI s k ∧ orI s k ≤ 511 := by
  have hp : 2 ^ k ≤ 2 ^ 8 := Nat.pow_le_pow_right (by omega) (by omega)
  have := Nat.or_lt_two_pow (n := 9) (x := s.toNat) (y := 2 ^ k) (by omega) (by omega)
  unfold orI
  omega
theorem or_i64 {s : Int} {k : Nat} (h0 : 0 ≤ s) (h1 : s ≤ 511) (hk : k < 9) : bits .or .i64 s ((2 ^ k : Nat) : Int) = orI s k := by
  have hp : 2 ^ k ≤ 2 ^ 8 := Nat.pow_le_pow_right (by omega) (by omega)
  have hb := orI_bd h0 h1 hk
  obtain ⟨n, rfl⟩ : ∃ n : Nat, s = n := ⟨s.toNat, by omega⟩
  show IntKind.i64.wrap ((BitVec.ofInt 64 (n : Int) ||| BitVec.ofInt 64 ((2 ^ k : Nat) : Int)).toNat : Int) = _
  have e1 : (BitVec.ofInt 64 (n : Int)).toNat = n := by simp; omega
  have e2 : (BitVec.ofInt 64 ((2 ^ k : Nat) : Int)).toNat = 2 ^ k := by generalize 2 ^ k = p at hp ⊢; rw [BitVec.toNat_ofInt]; omega
  unfold orI at hb ⊢
  rw [BitVec.toNat_or, e1, e2, IntKind.wrap_i64]
  simp only [Int.toNat_natCast] at hb ⊢
  omega
theorem bitB_nat (n k : Nat) : bitB (n : Int) k = n.testBit k := by
  rw [Nat.testBit_eq_decide_div_mod_eq]
  unfold bitB
  have e2 : (n : Int) / ((2 ^ k : Nat) : Int) = ((n / 2 ^ k : Nat) : Int) := by rw [Int.natCast_ediv]
  rw [e2]
  exact decide_eq_decide.2 (by omega)
theorem bitB_or {s : Int} (h0 : 0 ≤ s) (k j : Nat) : bitB (orI s k) j = (bitB s j || decide (k = j)) := by
  obtain ⟨n, rfl⟩ : ∃ n : Nat, s = n := ⟨s.toNat, by omega⟩
  unfold orI
  rw [bitB_nat, bitB_nat, Int.toNat_natCast, Nat.testBit_or, Nat.testBit_two_pow]
def Act9.put (a : Act9) (k : Nat) (n : Int) : Act9 :=
  let s := orI a.set k
  match k with
  | 0 => { a with set := s, v0 := n }
  | 1 => { a with set := s, v1 := n }
  | 2 => { a with set := s, v2 := n }
  | 3 => { a with set := s, v3 := n }
  | 4 => { a with set := s, v4 := n }
  | 5 => { a with set := s, v5 := n }
  | 6 => { a with set := s, v6 := n }
  | 7 => { a with set := s, v7 := n }
  | 8 => { a with set := s, v8 := n }
  | _ => a
theorem put_set (a : Act9) {k : Nat} (hk : k < 9) (n : Int) : (a.put k n).set = orI a.set k := by
  match k, hk with
  | 0, _ => rfl
  | 1, _ => rfl
  | 2, _ => rfl
  | 3, _ => rfl
  | 4, _ => rfl
  | 5, _ => rfl
  | 6, _ => rfl
  | 7, _ => rfl
  | 8, _ => rfl
theorem put_val (a : Act9) {k j : Nat} (hk : k < 9) (hj : j < 9) (n : Int) : (a.put k n).val j = if j = k then n else a.val j := by
  match k, hk, j, hj with
  | 0, _, 0, _ => rfl
  | 0, _, 1, _ => rfl
  | 0, _, 2, _ => rfl
  | 0, _, 3, _ => rfl
  | 0, _, 4, _ => rfl
  | 0, _, 5, _ => rfl
  | 0, _, 6, _ => rfl
  | 0, _, 7, _ => rfl
  | 0, _, 8, _ => rfl
  | 1, _, 0, _ => rfl
  | 1, _, 1, _ => rfl
  | 1, _, 2, _ => rfl
  | 1, _, 3, _ => rfl
  | 1, _, 4, _ => rfl
  | 1, _, 5, _ => rfl
  | 1, _, 6, _ => rfl
  | 1, _, 7, _ => rfl
  | 1, _, 8, _ => rfl
  | 2, _, 0, _ => rfl
  | 2, _, 1, _ => rfl
  | 2, _, 2, _ => rfl
  | 2, _, 3, _ => rfl
  | 2, _, 4, _ => rfl
  | 2, _, 5, _ => rfl
  | 2, _, 6, _ => rfl
  | 2, _, 7, _ => rfl
  | 2, _, 8, _ => rfl
  | 3, _, 0, _ => rfl
  | 3, _, 1, _ => rfl
  | 3, _, 2, _ => rfl
  | 3, _, 3, _ => rfl
  | 3, _, 4, _ => rfl
  | 3, _, 5, _ => rfl
  | 3, _, 6, _ => rfl
  | 3, _, 7, _ => rfl
  | 3, _, 8, _ => rfl
  | 4, _, 0, _ => rfl
  | 4, _, 1, _ => rfl
  | 4, _, 2, _ => rfl
  | 4, _, 3, _ => rfl
  | 4, _, 4, _ => rfl
  | 4, _, 5, _ => rfl
  | 4, _, 6, _ => rfl
  | 4, _, 7, _ => rfl
  | 4, _, 8, _ => rfl
  | 5, _, 0, _ => rfl
  | 5, _, 1, _ => rfl
  | 5, _, 2, _ => rfl
  | 5, _, 3, _ => rfl
  | 5, _, 4, _ => rfl
  | 5, _, 5, _ => rfl
  | 5, _, 6, _ => rfl
  | 5, _, 7, _ => rfl
  | 5, _, 8, _ => rfl
  | 6, _, 0, _ => rfl
  | 6, _, 1, _ => rfl
  | 6, _, 2, _ => rfl
  | 6, _, 3, _ => rfl
  | 6, _, 4, _ => rfl
  | 6, _, 5, _ => rfl
  | 6, _, 6, _ => rfl
  | 6, _, 7, _ => rfl
  | 6, _, 8, _ => rfl
  | 7, _, 0, _ => rfl
  | 7, _, 1, _ => rfl
  | 7, _, 2, _ => rfl
  | 7, _, 3, _ => rfl
  | 7, _, 4, _ => rfl
  | 7, _, 5, _ => rfl
  | 7, _, 6, _ => rfl
  | 7, _, 7, _ => rfl
  | 7, _, 8, _ => rfl
  | 8, _, 0, _ => rfl
  | 8, _, 1, _ => rfl
  | 8, _, 2, _ => rfl
  | 8, _, 3, _ => rfl
  | 8, _, 4, _ => rfl
  | 8, _, 5, _ => rfl
  | 8, _, 6, _ => rfl
  | 8, _, 7, _ => rfl
  | 8, _, 8, _ => rfl
theorem put_cells (a : Act9) {k : Nat} (hk : k < 9) (n : Int) : (a.put k n).vals = (a.vals.set 0 (.int .i64 (orI a.set k))).set (1 + k) (.int .u64 n) := by
  match k, hk with
  | 0, _ => rfl
  | 1, _ => rfl
  | 2, _ => rfl
  | 3, _ => rfl
  | 4, _ => rfl
  | 5, _ => rfl
  | 6, _ => rfl
  | 7, _ => rfl
  | 8, _ => rfl
def thenN (a b : Act9) : Nat → Act9
  | 0 => a
  | k + 1 => if bitB b.set k then (thenN a b k).put k (b.val k) else thenN a b k
def thenA (a b : Act9) : Act9 := thenN a b 9
theorem put_right {a : Act9} (ha : a.Right) {k : Nat} {n : Int} (hk : k < 9) (h0 : 0 ≤ n) (h1 : n ≤ fullN k) : (a.put k n).Right := by
  have hb := orI_bd ha.lo ha.hi hk
  refine ⟨by rw [put_set a hk]; exact hb.1, by rw [put_set a hk]; exact hb.2, fun j hj => ?_, fun j hj e => ?_⟩
  · rw [put_val a hk hj]
    split
    · rename_i e; rw [e]; exact ⟨h0, h1⟩
    · exact ha.val j hj
  · rw [put_set a hk, bitB_or ha.lo, Bool.or_eq_false_iff, decide_eq_false_iff_not] at e
    rw [put_val a hk hj, if_neg (by omega)]
    exact ha.off j hj e.1
theorem thenN_right {a b : Act9} (ha : a.Right) (hb : b.Right) : ∀ k, k ≤ 9 → (thenN a b k).Right
  | 0, _ => ha
  | k + 1, hk => by
    rw [thenN]
    split
    · exact put_right (thenN_right ha hb k (by omega)) (by omega) (hb.val k (by omega)).1 (hb.val k (by omega)).2
    · exact thenN_right ha hb k (by omega)
theorem act_one (a : Act9) : ∀ u ∈ a.vals, u.oneCell' = true := by
  intro u hu
  simp only [Act9.vals, List.mem_cons, List.not_mem_nil, or_false] at hu
  rcases hu with rfl | rfl | rfl | rfl | rfl | rfl | rfl | rfl | rfl | rfl <;> rfl
def zeroA : Act9 := ⟨0, 0, 0, 0, 0, 0, 0, 0, 0, 0⟩
theorem grown_drew {w w' : World} {r : Option Nat} (h : w.grownBy w' r) : w.grownBy w'.drew r := ⟨h.os, h.tape, h.output, h.size, h.block⟩
def ThenW (w W : World) (a b r : Act9) : Prop := Below w.heap.size w W ∧ Blk W w.heap.size 25 a.vals.toArray ∧ Blk W (w.heap.size + 1) 25 b.vals.toArray ∧ Blk W (w.heap.size + 2) 25 r.vals.toArray
set_option maxRecDepth 100000 in
set_option maxHeartbeats 8000000 in
theorem act_Then (a b : Act9) (w : World) (ha : a.Right) (hb : b.Right) :
    Calls Tryd.prog 14 #[.agg a.vals.toArray, .agg b.vals.toArray] w fun e w' => e = .returned (.agg (thenA a b).vals.toArray) ∧ Below w.heap.size w w' := by
  have HX : Hid (ThenW w (((w.alloc (.cells a.vals.toArray 25)).alloc (.cells b.vals.toArray 25)).alloc (.cells zeroA.vals.toArray 25)) a b zeroA) := by
    have b1 := Blk.new w 25 a.vals.toArray
    have l1 := (Below.refl w.heap.size w).alloc (Nat.le_refl _) (.cells a.vals.toArray 25)
    generalize hW1 : w.alloc (.cells a.vals.toArray 25) = W1 at b1 l1 ⊢
    have s1 : W1.heap.size = w.heap.size + 1 := by rw [← hW1]; simp
    have b2 := Blk.new W1 25 b.vals.toArray
    have l2 := (Below.refl W1.heap.size W1).alloc (Nat.le_refl _) (.cells b.vals.toArray 25)
    generalize hW2 : W1.alloc (.cells b.vals.toArray 25) = W2 at b2 l2 ⊢
    have s2 : W2.heap.size = w.heap.size + 2 := by rw [← hW2]; simp [s1]
    have b3 := Blk.new W2 25 zeroA.vals.toArray
    have l3 := (Below.refl W2.heap.size W2).alloc (Nat.le_refl _) (.cells zeroA.vals.toArray 25)
    rw [s1] at b2
    rw [s2] at b3
    exact Lib.hid ⟨below_step l1 (below_step l2 l3), (b1.below l2 (by omega)).below l3 (by omega), b2.below l3 (by omega), b3⟩
  have HA := Lib.hid (fun k hk => thenN_right ha hb k hk)
  have HB := Lib.hid hb
  clear ha hb
  go_enter Tryd.func14, Tryd.ntmps14
  go_upto_region 1 with fail
  refine wp_gen (fun W => ThenW w W a b zeroA) HX.out ?_
  rintro W hW
  have HW := Lib.hid hW
  clear hW HX
  go_wp2_with fail
  go_loopw [6] (fun i wr => ∃ k : Nat, k ≤ 9 ∧ i = .int .i64 k ∧ Hid (ThenW w wr (thenN a b k) b zeroA)) (fun i _ => 9 - (intOf i).toNat)
  case atStart => exact ⟨0, by omega, rfl, HW⟩
  case round =>
    obtain ⟨k, hk, rfl, HR⟩ := hrel
    by_cases hlt : k < 9
    · have hk0 : (0 : Int) ≤ (k : Int) := by omega
      have hk9 : (k : Int) < 9 := by omega
      have hk64 : (k : Int) ≤ 64 := by omega
      have hm64 : min k 64 = k := by omega
      have hs0 := HB.out.lo
      have hs1 := HB.out.hi
      have e0 : wr.cell? ⟨w.heap.size + 1, 0, none⟩ = some (.int .i64 b.set) := HR.out.2.2.1.cell 0
      by_cases hb : bitB b.set k = true
      · have hbit : bits .and .i64 (b.set / 2 ^ k) 1 = 1 := by rw [bit_i64 hs0 hs1, if_pos hb]
        have hgr : wr.grownBy wr.drew (some w.heap.size) := ⟨rfl, rfl, rfl, by simp, fun _ _ _ => rfl⟩
        have hc0 := (HA.out k hk).lo
        have hc1 := (HA.out k hk).hi
        have HN : Hid (thenN a b (k + 1) = (thenN a b k).put k (b.val k)) := Lib.hid (by rw [thenN, if_pos hb])
        obtain ⟨c, hc⟩ : ∃ c, c = thenN a b k := ⟨_, rfl⟩
        rw [← hc] at HR HN hc0 hc1
        have e2 : ∀ w', wr.grownBy w' (some w.heap.size) → w'.cell? ⟨w.heap.size + 1, 1 + k, none⟩ = some (.int .u64 (b.val k)) := fun w' q => ((HR.out.2.2.1.grown q (by omega)).cell (1 + k)).trans (b.cell hlt)
        have hf0 : wr.frozen? ⟨w.heap.size, 0, none⟩ = false := HR.out.2.1.free 0
        have hf1 : wr.frozen? ⟨w.heap.size, 1 + k, none⟩ = false := HR.out.2.1.free (1 + k)
        have hf2 : (wr.setCell ⟨w.heap.size, 0, none⟩ (.int .i64 (orI c.set k))).frozen? ⟨w.heap.size, 1 + k, none⟩ = false := (HR.out.2.1.set_ 0 _).free (1 + k)
        have hcv : wr.cell? ⟨w.heap.size, 1 + k, none⟩ = some (.int .u64 (c.val k)) := (HR.out.2.1.cell (1 + k)).trans (c.cell hlt)
        have hor : bits .or .i64 c.set (IntKind.i64.wrap (2 ^ k)) = orI c.set k := by
          have hp : 2 ^ k ≤ 2 ^ 8 := Nat.pow_le_pow_right (by omega) (by omega)
          have hpe : (2 : Int) ^ k = ((2 ^ k : Nat) : Int) := by rw [Int.natCast_pow]; rfl
          rw [hpe, ← or_i64 hc0 hc1 hlt]
          congr 1
          rw [IntKind.wrap_i64]
          generalize 2 ^ k = p at hp ⊢
          omega
        have e3 : wr.drew.cell? ⟨w.heap.size, 0, none⟩ = some (.int .i64 c.set) := HR.out.2.1.drew.cell 0
        obtain ⟨v, hv⟩ : ∃ v, v = b.val k := ⟨_, rfl⟩
        rw [← hv] at e2 HN
        clear hc hv
        go_upto_region 5 with fail
        refine wp_region_held_drew (S := (fun w' => wr.grownBy w' (some w.heap.size))) (by kernel_rfl) ?_ (fun hHeld => ?_)
        · (try dsimp only); (first | exact hgr | exact grown_drew (grownBy_setCell _ _ _ _) | exact grown_drew (grownBy_trans (grownBy_setCell _ _ _ _) (grownBy_setCell _ _ _ _)))
        refine wpAnyH_take (i := 0) (v := ?_) rfl (by kernel_rfl) (by kernel_rfl) (by kernel_rfl) (fun _ _ _ h => h) (Or.inl ⟨by rfl, ?_⟩) (by assumption) ?_
        rotate_left
        · (intro w hSw; (try dsimp only at hSw); go_simp; first | done | with_reducible rfl)
        try simp only [List.getElem_toArray, List.getElem_cons_zero, List.getElem_cons_succ, Act.put, List.setIfInBounds_toArray, List.set_cons_zero, List.set_cons_succ]
        refine wpAnyH_take (i := 1) (v := ?_) rfl (by kernel_rfl) (by kernel_rfl) (by kernel_rfl) (fun _ _ _ h => h) (Or.inl ⟨by rfl, ?_⟩) (by assumption) ?_
        rotate_left
        · (intro w hSw; (try dsimp only at hSw); go_simp; first | done | with_reducible rfl)
        try simp only [List.getElem_toArray, List.getElem_cons_zero, List.getElem_cons_succ, Act.put, List.setIfInBounds_toArray, List.set_cons_zero, List.set_cons_succ]
        refine wpAnyH_take (i := 3) (v := ?_) rfl (by kernel_rfl) (by kernel_rfl) (by kernel_rfl) (fun _ _ _ h => h) (Or.inl ⟨by rfl, ?_⟩) (by assumption) ?_
        rotate_left
        · (intro w hSw; (try dsimp only at hSw); go_simp; first | done | with_reducible rfl)
        try simp only [List.getElem_toArray, List.getElem_cons_zero, List.getElem_cons_succ, Act.put, List.setIfInBounds_toArray, List.set_cons_zero, List.set_cons_succ]
        refine wpAnyH_take (i := 4) (v := ?_) rfl (by kernel_rfl) (by kernel_rfl) (by kernel_rfl) (fun _ _ _ h => h) (Or.inl ⟨by rfl, ?_⟩) (by assumption) ?_
        rotate_left
        · (intro w hSw; (try dsimp only at hSw); go_simp; first | done | with_reducible rfl)
        try simp only [List.getElem_toArray, List.getElem_cons_zero, List.getElem_cons_succ, Act.put, List.setIfInBounds_toArray, List.set_cons_zero, List.set_cons_succ]
        refine wpAnyH_take (i := 6) (v := ?_) rfl (by kernel_rfl) (by kernel_rfl) (by kernel_rfl) (fun _ _ _ h => h) (Or.inl ⟨by rfl, ?_⟩) (by assumption) ?_
        rotate_left
        · (intro w hSw; (try dsimp only at hSw); go_simp; first | done | with_reducible rfl)
        try simp only [List.getElem_toArray, List.getElem_cons_zero, List.getElem_cons_succ, Act.put, List.setIfInBounds_toArray, List.set_cons_zero, List.set_cons_succ]
        refine wpAnyH_take (i := 7) (v := ?_) rfl (by kernel_rfl) (by kernel_rfl) (by kernel_rfl) (fun _ _ _ h => h) (Or.inl ⟨by rfl, ?_⟩) (by assumption) ?_
        rotate_left
        · (intro w hSw; (try dsimp only at hSw); go_simp; first | done | with_reducible rfl)
        try simp only [List.getElem_toArray, List.getElem_cons_zero, List.getElem_cons_succ, Act.put, List.setIfInBounds_toArray, List.set_cons_zero, List.set_cons_succ]
        refine wpAnyH_take (i := 8) (v := ?_) rfl (by kernel_rfl) (by kernel_rfl) (by kernel_rfl) (fun _ _ _ h => h) (Or.inl ⟨by rfl, ?_⟩) (by assumption) ?_
        rotate_left
        · (intro w hSw; (try dsimp only at hSw); go_simp; first | done | with_reducible rfl)
        try simp only [List.getElem_toArray, List.getElem_cons_zero, List.getElem_cons_succ, Act.put, List.setIfInBounds_toArray, List.set_cons_zero, List.set_cons_succ]
        refine wpAnyH_take (i := 9) (v := ?_) rfl (by kernel_rfl) (by kernel_rfl) (by kernel_rfl) (fun _ _ _ h => h) (Or.inl ⟨by rfl, ?_⟩) (by assumption) ?_
        rotate_left
        · (intro w hSw; (try dsimp only at hSw); go_simp; first | done | with_reducible rfl)
        try simp only [List.getElem_toArray, List.getElem_cons_zero, List.getElem_cons_succ, Act.put, List.setIfInBounds_toArray, List.set_cons_zero, List.set_cons_succ]
        refine wpAnyH_take (i := 12) (v := ?_) rfl (by kernel_rfl) (by kernel_rfl) (by kernel_rfl) (fun _ _ _ h => h) (Or.inl ⟨by rfl, ?_⟩) (by assumption) ?_
        rotate_left
        · (intro w hSw; (try dsimp only at hSw); go_simp; first | done | with_reducible rfl)
        try simp only [List.getElem_toArray, List.getElem_cons_zero, List.getElem_cons_succ, Act.put, List.setIfInBounds_toArray, List.set_cons_zero, List.set_cons_succ]
        refine wpAnyH_ready (rs := [2]) (by kernel_rfl) (by simp) ?_
        refine AllReadyH.cons rfl (fun K hK => ?_) AllReadyH.nil
        go_simp
        refine hK.out _ _ ?_ (fun hHeldN => ?_)
        · (try dsimp only); (first | exact hgr | exact grown_drew (grownBy_setCell _ _ _ _) | exact grown_drew (grownBy_trans (grownBy_setCell _ _ _ _) (grownBy_setCell _ _ _ _)))
        clear hK K hHeld
        try clear hb1' hq
        have hHeld := hHeldN
        clear hHeldN
        try simp only [List.getElem_toArray, List.getElem_cons_zero, List.getElem_cons_succ, Act.put, List.setIfInBounds_toArray, List.set_cons_zero, List.set_cons_succ]
        refine wpAnyH_take (i := 5) (v := ?_) rfl (by kernel_rfl) (by kernel_rfl) (by kernel_rfl) (fun _ _ _ h => h) (Or.inl ⟨by rfl, ?_⟩) (by assumption) ?_
        rotate_left
        · (intro w hSw; (try dsimp only at hSw); go_simp; first | done | with_reducible rfl)
        try simp only [List.getElem_toArray, List.getElem_cons_zero, List.getElem_cons_succ, Act.put, List.setIfInBounds_toArray, List.set_cons_zero, List.set_cons_succ]
        refine wpAnyH_take (i := 10) (v := ?_) rfl (by kernel_rfl) (by kernel_rfl) (by kernel_rfl) (fun _ _ _ h => h) (Or.inl ⟨by rfl, ?_⟩) (by assumption) ?_
        rotate_left
        · (intro w hSw; (try dsimp only at hSw); go_simp; first | done | with_reducible rfl)
        try simp only [List.getElem_toArray, List.getElem_cons_zero, List.getElem_cons_succ, Act.put, List.setIfInBounds_toArray, List.set_cons_zero, List.set_cons_succ]
        refine wpAnyH_ready (rs := [11]) (by kernel_rfl) (by simp) ?_
        refine AllReadyH.cons rfl (fun K hK => ?_) AllReadyH.nil
        go_simp
        refine hK.out _ _ ?_ (fun hHeldN => ?_)
        · (try dsimp only); (first | exact hgr | exact grown_drew (grownBy_setCell _ _ _ _) | exact grown_drew (grownBy_trans (grownBy_setCell _ _ _ _) (grownBy_setCell _ _ _ _)))
        clear hK K hHeld
        try clear hb1' hq
        have hHeld := hHeldN
        clear hHeldN
        try simp only [List.getElem_toArray, List.getElem_cons_zero, List.getElem_cons_succ, Act.put, List.setIfInBounds_toArray, List.set_cons_zero, List.set_cons_succ]
        refine wpAnyH_take (i := 13) (v := ?_) rfl (by kernel_rfl) (by kernel_rfl) (by kernel_rfl) (fun _ _ _ h => h) (Or.inl ⟨by rfl, ?_⟩) (by assumption) ?_
        rotate_left
        · (intro w hSw; (try dsimp only at hSw); go_simp; first | done | with_reducible rfl)
        try simp only [List.getElem_toArray, List.getElem_cons_zero, List.getElem_cons_succ, Act.put, List.setIfInBounds_toArray, List.set_cons_zero, List.set_cons_succ]
        refine wpAnyH_ready (rs := [14]) (by kernel_rfl) (by simp) ?_
        refine AllReadyH.cons rfl (fun K hK => ?_) AllReadyH.nil
        go_simp
        refine hK.out _ _ ?_ (fun hHeldN => ?_)
        · (try dsimp only); (first | exact hgr | exact grown_drew (grownBy_setCell _ _ _ _) | exact grown_drew (grownBy_trans (grownBy_setCell _ _ _ _) (grownBy_setCell _ _ _ _)))
        clear hK K hHeld
        try clear hb1' hq
        have hHeld := hHeldN
        clear hHeldN
        try simp only [List.getElem_toArray, List.getElem_cons_zero, List.getElem_cons_succ, Act.put, List.setIfInBounds_toArray, List.set_cons_zero, List.set_cons_succ]
        refine wpAnyH_done (by kernel_rfl) ?_ _
        go_wp2_with fail
        go_roundw
        case rel => exact ⟨k + 1, by omega, by go_num, by
          rw [HN.out]
          have hge := grown_drew (grownBy_trans (grownBy_setCell wr w.heap.size 0 (.int .i64 (orI c.set k))) (grownBy_setCell _ w.heap.size (1 + k) (.int .u64 v)))
          exact Lib.hid ⟨below_grown HR.out.1 hge (by omega), by rw [put_cells c hlt]; exact ((HR.out.2.1.set_ 0 _).set_ (1 + k) _).drew, HR.out.2.2.1.grown hge (by omega), HR.out.2.2.2.grown hge (by omega)⟩⟩
        case measure => simp [intOf]; omega
      · have hbit : bits .and .i64 (b.set / 2 ^ k) 1 = 0 := by rw [bit_i64 hs0 hs1, if_neg hb]
        have HN : Hid (thenN a b (k + 1) = thenN a b k) := Lib.hid (by rw [thenN, if_neg hb])
        go_wp2_with fail
        go_roundw
        case rel => exact ⟨k + 1, by omega, by go_num, by rw [HN.out]; exact HR⟩
        case measure => simp [intOf]; omega
    · obtain rfl : k = 9 := by omega
      obtain ⟨g, hg⟩ : ∃ g, g = thenN a b 9 := ⟨_, rfl⟩
      have HG : Hid (thenA a b = g) := Lib.hid hg.symm
      rw [← hg] at HR
      clear hg
      have HRng := Lib.hid HR.out.2.1.range
      go_wp2_with (first
        | (refine wpList_load_mid rfl 25 (.tmp 2) rfl w.heap.size 0 rfl g.vals _ HRng.out Tryd.underlying25 rfl (by kernel_rfl) ?_)
        | (refine wpList_store_blk rfl 25 (.tmp 4) (.tmp 29) rfl (w.heap.size + 2) 25 _ g.vals rfl rfl HR.out.2.2.2 rfl rfl (act_one g) ?_; intro W3 hz hg; have HZ3 := Lib.hid hz; have HG3 := Lib.hid hg; clear hz hg)
        | fail)
      refine bodyPost_ret (results_cell_row rfl _ _ (w.heap.size + 2) 25 _ (0, 0) _ rfl HZ3.out.heap Tryd.underlying25 rfl rfl) rfl ?_
      exact ⟨by rw [HG.out], below_grown HR.out.1 HG3.out (by omega)⟩
end Go.Proofs.YtjeligbgcofaeaaDoor
