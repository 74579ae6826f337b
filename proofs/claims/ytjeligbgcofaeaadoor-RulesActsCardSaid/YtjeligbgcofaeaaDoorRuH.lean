/- The law RulesActs, but for its example. -/
import Derived.Test.YtjeligbgcofaeaaDoorRuG
namespace Go.Proofs.YtjeligbgcofaeaaDoor
open Go.RowKit
set_option linter.unusedVariables false
set_option linter.unusedSimpArgs false

theorem yields_eqv {P : Program} {ops : Array Oper} {S : World → Prop} {op : Oper} {a : Act} (hw : Region.wanted op (yielded ops a.tmps) = true) (o : BinOp) (t : TypeId) (x y : Operand) (t2 : TypeId) (ho : op.op = .binOp o t x y t2) (vx vy : Array Value) (hx : a.eval x = .agg vx) (hy : a.eval y = .agg vy) (r : Value)
    (hm : P.eqGuardType P.depth t = false) (hr : ∀ w, (binOp o t (.agg vx) (.agg vy)).run P w = .ok r w) : YieldsIf P ops S op r a :=
  .inl ⟨hw, fun w _ => by
    unfold execOp
    simp only [ho, hx, hy, Sem.run_bind, Sem.run_pure, run_eqGuard_agg (P := P) w o t x y vx vy hm, hr, Result.andThen_ok]⟩
theorem wpList_load_rowG {P : Program} {ops : Array Oper} {rest : List Oper} {op : Oper} {a : Act} {w : World} {Q : Exit → Act → World → Prop} (hw : Region.wanted op (yielded ops a.tmps) = true) (ty : TypeId) (x : Operand) (ho : op.op = .load ty x)
    (b o : Nat) (hx : a.eval x = .pointer (some ⟨b, o, none⟩)) (cs : List Value) (d : TypeDesc) (hc : w.rangeAt b o cs)
    (hu : P.underlying ty = some d) (hd : d.isRow = true) (hi : (P.info? ty).map (·.size) = some cs.length)
    (h : wpList P ops Q rest (a.put op.dst (.agg cs.toArray)) w) : wpList P ops Q (op :: rest) a w :=
  wpList_step fun K hK => by
    rw [if_pos hw]
    exact wp_load_mid ty x ho b o hx cs d hc hu hd hi (hK _ _ h)
def EXA : Prop := ∀ w, Tab w → Calls Tryd.prog 9 #[] w fun e w' => e = .returned (.bool true) ∧ Below w.heap.size w w'
def ActsW (w W : World) (a b : Act9) (h : Hdr) : Prop := Below w.heap.size w W ∧ Blk W w.heap.size 25 a.vals.toArray ∧ Blk W (w.heap.size + 1) 25 b.vals.toArray ∧ Blk W (w.heap.size + 2) 31 h.vals.toArray
set_option maxRecDepth 100000 in
set_option maxHeartbeats 16000000 in
theorem law_acts (hex : EXA) (a b : Act9) (h : Hdr) (w : World) (hT : Tab w) (ha : a.Fits) (hb : b.Fits) (hf : h.Fits) :
    Calls Tryd.prog 3 #[.agg a.vals.toArray, .agg b.vals.toArray, .agg h.vals.toArray] w fun e w' => e = .returned (.bool true) ∧ Below w.heap.size w w' := by
  have HX : Hid (ActsW w (((w.alloc (.cells a.vals.toArray 25)).alloc (.cells b.vals.toArray 25)).alloc (.cells h.vals.toArray 31)) a b h) := by
    have b1 := Blk.new w 25 a.vals.toArray
    have l1 := (Below.refl w.heap.size w).alloc (Nat.le_refl _) (.cells a.vals.toArray 25)
    generalize hW1 : w.alloc (.cells a.vals.toArray 25) = W1 at b1 l1 ⊢
    have s1 : W1.heap.size = w.heap.size + 1 := by rw [← hW1]; simp
    have b2 := Blk.new W1 25 b.vals.toArray
    have l2 := (Below.refl W1.heap.size W1).alloc (Nat.le_refl _) (.cells b.vals.toArray 25)
    generalize hW2 : W1.alloc (.cells b.vals.toArray 25) = W2 at b2 l2 ⊢
    have s2 : W2.heap.size = w.heap.size + 2 := by rw [← hW2]; simp [s1]
    have b3 := Blk.new W2 31 h.vals.toArray
    have l3 := (Below.refl W2.heap.size W2).alloc (Nat.le_refl _) (.cells h.vals.toArray 31)
    rw [s1] at b2
    rw [s2] at b3
    exact Lib.hid ⟨below_step l1 (below_step l2 l3), (b1.below l2 (by omega)).below l3 (by omega), b2.below l3 (by omega), b3⟩
  have HT := Lib.hid hT
  have HA := Lib.hid ha
  have HB := Lib.hid hb
  have HF := Lib.hid hf
  have HEX := Lib.hid hex
  clear hT ha hb hf hex
  go_enter Tryd.func3, Tryd.ntmps3
  go_upto_region 1 with fail
  refine wp_gen (fun W => ActsW w W a b h) HX.out ?_
  rintro W ⟨hW, hk1, hk2, hk3⟩
  have HW := Lib.hid hW
  have HTW := Lib.hid (HT.out.below hW)
  have RA := Lib.hid (fun w' (q : Below W.heap.size W w') => (hk1.below q hk1.lt).range)
  have RB := Lib.hid (fun w' (q : Below W.heap.size W w') => (hk2.below q hk2.lt).range)
  have RH := Lib.hid (fun w' (q : Below W.heap.size W w') => (hk3.below q hk3.lt).range)
  have XA := Lib.hid (fun w' (q : Below W.heap.size W w') (k : Nat) (hk : k < 9) => (show w'.cell? ⟨w.heap.size, 0, none⟩ = some (.int .i64 a.set) ∧ w'.cell? ⟨w.heap.size, 1 + k, none⟩ = some (.int .u64 (a.val k)) from ⟨(hk1.below q hk1.lt).cell 0, ((hk1.below q hk1.lt).cell (1 + k)).trans (a.cell hk)⟩))
  have hB : Below W.heap.size W W := Below.refl _ _
  have C0 := Lib.hid (HEX.out W HTW.out)
  clear hW hk1 hk2 hk3 HX HEX HT
  go_upto_region 3 with (first
    | (go_at_call 9; (with_reducible refine C0.out.mono ?_); rintro e u ⟨rfl, hb⟩; replace hB := below_step hB hb; clear hb)
    | fail)
  have C10 := Lib.hid (fun W2 (q : Below W.heap.size W W2) => act_Check a W2 (HTW.out.below q) HA.out)
  have C11 := Lib.hid (fun W2 (q : Below W.heap.size W W2) => law_right a W2 (HTW.out.below q) HA.out)
  have C11b := Lib.hid (fun W2 (q : Below W.heap.size W W2) => law_right b W2 (HTW.out.below q) HB.out)
  clear C0
  by_cases hra : rightA a = true
  rotate_left
  · have e1 : rightA a = false := by simpa using hra
    have e2 : actE a = 1 := by unfold actE; rw [e1]; rfl
    simp only [e1] at C11
    simp only [e2] at C10
    clear e1 e2 hra
    refine wp_region_held_drew (S := (fun w' => Below W.heap.size W w')) (by kernel_rfl) ?_ (fun hHeld => ?_)
    · (try dsimp only); (first | (with_reducible exact below_step (by assumption) hb1') | (repeat' (first | (with_reducible exact Below.refl _ _) | (with_reducible assumption) | (with_reducible exact Below.size (by assumption)) | (with_reducible refine Below.drew ?_))))
    refine wpAnyH_take (i := 0) (v := _) rfl (by kernel_rfl) (by kernel_rfl) (by kernel_rfl) (fun _ _ _ h => h) (yieldsIf_load_mid (by rfl) _ _ rfl _ _ rfl a.vals _ (fun w' q => RA.out w' q) Tryd.underlying25 rfl (by kernel_rfl)) (by assumption) ?_
    try simp only [List.getElem_toArray, List.getElem_cons_zero, List.getElem_cons_succ, Act.put, List.setIfInBounds_toArray, List.set_cons_zero, List.set_cons_succ]
    refine wpAnyH_take (i := 3) (v := _) rfl (by kernel_rfl) (by kernel_rfl) (by kernel_rfl) (fun _ _ _ h => h) (yieldsIf_load_mid (by rfl) _ _ rfl _ _ rfl a.vals _ (fun w' q => RA.out w' q) Tryd.underlying25 rfl (by kernel_rfl)) (by assumption) ?_
    try simp only [List.getElem_toArray, List.getElem_cons_zero, List.getElem_cons_succ, Act.put, List.setIfInBounds_toArray, List.set_cons_zero, List.set_cons_succ]
    refine wpAnyH_ready (rs := [1]) (by kernel_rfl) (by simp) ?_
    refine AllReadyH.cons rfl (fun K hK => ?_) AllReadyH.nil
    go_simp
    (go_at_call 10; (with_reducible refine (C10.out _ hHeld).mono ?_); rintro e u1 ⟨rfl, hbq⟩; have hb1' := below_step hHeld hbq; have hq := hb1'; clear hbq)
    go_wp2_with fail
    refine hK.out _ _ ?_ (fun hHeldN => ?_)
    · (try dsimp only); (first | (with_reducible exact below_step (by assumption) hb1') | (repeat' (first | (with_reducible exact Below.refl _ _) | (with_reducible assumption) | (with_reducible exact Below.size (by assumption)) | (with_reducible refine Below.drew ?_))))
    clear hK K hHeld
    try clear hb1' hq
    have hHeld := hHeldN
    clear hHeldN
    try simp only [List.getElem_toArray, List.getElem_cons_zero, List.getElem_cons_succ, Act.put, List.setIfInBounds_toArray, List.set_cons_zero, List.set_cons_succ]
    refine wpAnyH_take (i := 2) (v := ?_) rfl (by kernel_rfl) (by kernel_rfl) (by kernel_rfl) (fun _ _ _ h => h) (Or.inl ⟨by rfl, ?_⟩) (by assumption) ?_
    rotate_left
    · (intro w hSw; (try dsimp only at hSw); go_simp; first | done | with_reducible rfl)
    try simp only [List.getElem_toArray, List.getElem_cons_zero, List.getElem_cons_succ, Act.put, List.setIfInBounds_toArray, List.set_cons_zero, List.set_cons_succ]
    refine wpAnyH_ready (rs := [4]) (by kernel_rfl) (by simp) ?_
    refine AllReadyH.cons rfl (fun K hK => ?_) AllReadyH.nil
    go_simp
    (go_at_call 11; (with_reducible refine (C11.out _ hHeld).mono ?_); rintro e u1 ⟨rfl, hbq⟩; have hb1' := below_step hHeld hbq; have hq := hb1'; clear hbq)
    go_wp2_with fail
    refine hK.out _ _ ?_ (fun hHeldN => ?_)
    · (try dsimp only); (first | (with_reducible exact below_step (by assumption) hb1') | (repeat' (first | (with_reducible exact Below.refl _ _) | (with_reducible assumption) | (with_reducible exact Below.size (by assumption)) | (with_reducible refine Below.drew ?_))))
    clear hK K hHeld
    try clear hb1' hq
    have hHeld := hHeldN
    clear hHeldN
    try simp only [List.getElem_toArray, List.getElem_cons_zero, List.getElem_cons_succ, Act.put, List.setIfInBounds_toArray, List.set_cons_zero, List.set_cons_succ]
    refine wpAnyH_take (i := 5) (v := ?_) rfl (by kernel_rfl) (by kernel_rfl) (by kernel_rfl) (fun _ _ _ h => h) (Or.inl ⟨by rfl, ?_⟩) (by assumption) ?_
    rotate_left
    · (intro w hSw; (try dsimp only at hSw); go_simp; first | done | with_reducible rfl)
    try simp only [List.getElem_toArray, List.getElem_cons_zero, List.getElem_cons_succ, Act.put, List.setIfInBounds_toArray, List.set_cons_zero, List.set_cons_succ]
    refine wpAnyH_take (i := 6) (v := ?_) rfl (by kernel_rfl) (by kernel_rfl) (by kernel_rfl) (fun _ _ _ h => h) (Or.inl ⟨by rfl, ?_⟩) (by assumption) ?_
    rotate_left
    · (intro w hSw; (try dsimp only at hSw); go_simp; first | done | with_reducible rfl)
    try simp only [List.getElem_toArray, List.getElem_cons_zero, List.getElem_cons_succ, Act.put, List.setIfInBounds_toArray, List.set_cons_zero, List.set_cons_succ]
    refine wpAnyH_take (i := 7) (v := _) rfl (by kernel_rfl) (by kernel_rfl) (by kernel_rfl) (fun _ _ _ h => h) (yieldsIf_load_mid (by rfl) _ _ rfl _ _ rfl a.vals _ (fun w' q => RA.out w' q) Tryd.underlying25 rfl (by kernel_rfl)) (by assumption) ?_
    try simp only [List.getElem_toArray, List.getElem_cons_zero, List.getElem_cons_succ, Act.put, List.setIfInBounds_toArray, List.set_cons_zero, List.set_cons_succ]
    refine wpAnyH_ready (rs := [8]) (by kernel_rfl) (by simp) ?_
    refine AllReadyH.cons rfl (fun K hK => ?_) AllReadyH.nil
    go_simp
    (go_at_call 11; (with_reducible refine (C11.out _ hHeld).mono ?_); rintro e u1 ⟨rfl, hbq⟩; have hb1' := below_step hHeld hbq; have hq := hb1'; clear hbq)
    go_wp2_with fail
    refine hK.out _ _ ?_ (fun hHeldN => ?_)
    · (try dsimp only); (first | (with_reducible exact below_step (by assumption) hb1') | (repeat' (first | (with_reducible exact Below.refl _ _) | (with_reducible assumption) | (with_reducible exact Below.size (by assumption)) | (with_reducible refine Below.drew ?_))))
    clear hK K hHeld
    try clear hb1' hq
    have hHeld := hHeldN
    clear hHeldN
    try simp only [List.getElem_toArray, List.getElem_cons_zero, List.getElem_cons_succ, Act.put, List.setIfInBounds_toArray, List.set_cons_zero, List.set_cons_succ]
    refine wpAnyH_take (i := 9) (v := ?_) rfl (by kernel_rfl) (by kernel_rfl) (by kernel_rfl) (fun _ _ _ h => h) (Or.inl ⟨by rfl, ?_⟩) (by assumption) ?_
    rotate_left
    · (intro w hSw; (try dsimp only at hSw); go_simp; first | done | with_reducible rfl)
    try simp only [List.getElem_toArray, List.getElem_cons_zero, List.getElem_cons_succ, Act.put, List.setIfInBounds_toArray, List.set_cons_zero, List.set_cons_succ]
    refine wpAnyH_take (i := 10) (v := ?_) rfl (by kernel_rfl) (by kernel_rfl) (by kernel_rfl) (fun _ _ _ h => h) (Or.inl ⟨by rfl, ?_⟩) (by assumption) ?_
    rotate_left
    · (intro w hSw; (try dsimp only at hSw); go_simp; first | done | with_reducible rfl)
    try simp only [List.getElem_toArray, List.getElem_cons_zero, List.getElem_cons_succ, Act.put, List.setIfInBounds_toArray, List.set_cons_zero, List.set_cons_succ]
    refine wpAnyH_take (i := 11) (v := _) rfl (by kernel_rfl) (by kernel_rfl) (by kernel_rfl) (fun _ _ _ h => h) (yieldsIf_load_mid (by rfl) _ _ rfl _ _ rfl a.vals _ (fun w' q => RA.out w' q) Tryd.underlying25 rfl (by kernel_rfl)) (by assumption) ?_
    try simp only [List.getElem_toArray, List.getElem_cons_zero, List.getElem_cons_succ, Act.put, List.setIfInBounds_toArray, List.set_cons_zero, List.set_cons_succ]
    refine wpAnyH_ready (rs := [12]) (by kernel_rfl) (by simp) ?_
    refine AllReadyH.cons rfl (fun K hK => ?_) AllReadyH.nil
    go_simp
    (go_at_call 10; (with_reducible refine (C10.out _ hHeld).mono ?_); rintro e u1 ⟨rfl, hbq⟩; have hb1' := below_step hHeld hbq; have hq := hb1'; clear hbq)
    go_wp2_with fail
    refine hK.out _ _ ?_ (fun hHeldN => ?_)
    · (try dsimp only); (first | (with_reducible exact below_step (by assumption) hb1') | (repeat' (first | (with_reducible exact Below.refl _ _) | (with_reducible assumption) | (with_reducible exact Below.size (by assumption)) | (with_reducible refine Below.drew ?_))))
    clear hK K hHeld
    try clear hb1' hq
    have hHeld := hHeldN
    clear hHeldN
    try simp only [List.getElem_toArray, List.getElem_cons_zero, List.getElem_cons_succ, Act.put, List.setIfInBounds_toArray, List.set_cons_zero, List.set_cons_succ]
    refine wpAnyH_take (i := 13) (v := ?_) rfl (by kernel_rfl) (by kernel_rfl) (by kernel_rfl) (fun _ _ _ h => h) (Or.inl ⟨by rfl, ?_⟩) (by assumption) ?_
    rotate_left
    · (intro w hSw; (try dsimp only at hSw); go_simp; first | done | with_reducible rfl)
    try simp only [List.getElem_toArray, List.getElem_cons_zero, List.getElem_cons_succ, Act.put, List.setIfInBounds_toArray, List.set_cons_zero, List.set_cons_succ]
    refine wpAnyH_take (i := 14) (v := ?_) rfl (by kernel_rfl) (by kernel_rfl) (by kernel_rfl) (fun _ _ _ h => h) (Or.inl ⟨by rfl, ?_⟩) (by assumption) ?_
    rotate_left
    · (intro w hSw; (try dsimp only at hSw); go_simp; first | done | with_reducible rfl)
    try simp only [List.getElem_toArray, List.getElem_cons_zero, List.getElem_cons_succ, Act.put, List.setIfInBounds_toArray, List.set_cons_zero, List.set_cons_succ]
    refine wpAnyH_take (i := 15) (v := ?_) rfl (by kernel_rfl) (by kernel_rfl) (by kernel_rfl) (fun _ _ _ h => h) (Or.inl ⟨by rfl, ?_⟩) (by assumption) ?_
    rotate_left
    · (intro w hSw; (try dsimp only at hSw); go_simp; first | done | with_reducible rfl)
    try simp only [List.getElem_toArray, List.getElem_cons_zero, List.getElem_cons_succ, Act.put, List.setIfInBounds_toArray, List.set_cons_zero, List.set_cons_succ]
    refine wpAnyH_done (by kernel_rfl) ?_ _
    rename_i hcur
    go_wp2_with (first
      | (refine wpList_load_mid rfl 25 (.tmp 3) rfl w.heap.size 0 rfl a.vals _ (RA.out _ hHeld) Tryd.underlying25 rfl (by kernel_rfl) ?_)
      | (go_at_call 11; (with_reducible refine (C11.out _ hHeld).mono ?_); rintro e u ⟨rfl, hb⟩; replace hHeld := below_step hHeld hb; clear hb)
      | fail)
    go_ret
    exact ⟨rfl, below_step HW.out hHeld⟩
  have hR := right_rightA HA.out hra
  have e2 : actE a = 0 := by unfold actE; rw [hra]; rfl
  simp only [hra] at C11
  simp only [e2] at C10
  have HR := Lib.hid hR
  clear e2 hra hR
  refine wp_region_held_drew (S := (fun w' => Below W.heap.size W w')) (by kernel_rfl) ?_ (fun hHeld => ?_)
  · (try dsimp only); (first | (with_reducible exact below_step (by assumption) hb1') | (repeat' (first | (with_reducible exact Below.refl _ _) | (with_reducible assumption) | (with_reducible exact Below.size (by assumption)) | (with_reducible refine Below.drew ?_))))
  refine wpAnyH_take (i := 0) (v := _) rfl (by kernel_rfl) (by kernel_rfl) (by kernel_rfl) (fun _ _ _ h => h) (yieldsIf_load_mid (by rfl) _ _ rfl _ _ rfl a.vals _ (fun w' q => RA.out w' q) Tryd.underlying25 rfl (by kernel_rfl)) (by assumption) ?_
  try simp only [List.getElem_toArray, List.getElem_cons_zero, List.getElem_cons_succ, Act.put, List.setIfInBounds_toArray, List.set_cons_zero, List.set_cons_succ]
  refine wpAnyH_take (i := 3) (v := _) rfl (by kernel_rfl) (by kernel_rfl) (by kernel_rfl) (fun _ _ _ h => h) (yieldsIf_load_mid (by rfl) _ _ rfl _ _ rfl a.vals _ (fun w' q => RA.out w' q) Tryd.underlying25 rfl (by kernel_rfl)) (by assumption) ?_
  try simp only [List.getElem_toArray, List.getElem_cons_zero, List.getElem_cons_succ, Act.put, List.setIfInBounds_toArray, List.set_cons_zero, List.set_cons_succ]
  refine wpAnyH_ready (rs := [1]) (by kernel_rfl) (by simp) ?_
  refine AllReadyH.cons rfl (fun K hK => ?_) AllReadyH.nil
  go_simp
  (go_at_call 10; (with_reducible refine (C10.out _ hHeld).mono ?_); rintro e u1 ⟨rfl, hbq⟩; have hb1' := below_step hHeld hbq; have hq := hb1'; clear hbq)
  go_wp2_with fail
  refine hK.out _ _ ?_ (fun hHeldN => ?_)
  · (try dsimp only); (first | (with_reducible exact below_step (by assumption) hb1') | (repeat' (first | (with_reducible exact Below.refl _ _) | (with_reducible assumption) | (with_reducible exact Below.size (by assumption)) | (with_reducible refine Below.drew ?_))))
  clear hK K hHeld
  try clear hb1' hq
  have hHeld := hHeldN
  clear hHeldN
  try simp only [List.getElem_toArray, List.getElem_cons_zero, List.getElem_cons_succ, Act.put, List.setIfInBounds_toArray, List.set_cons_zero, List.set_cons_succ]
  refine wpAnyH_take (i := 2) (v := ?_) rfl (by kernel_rfl) (by kernel_rfl) (by kernel_rfl) (fun _ _ _ h => h) (Or.inl ⟨by rfl, ?_⟩) (by assumption) ?_
  rotate_left
  · (intro w hSw; (try dsimp only at hSw); go_simp; first | done | with_reducible rfl)
  try simp only [List.getElem_toArray, List.getElem_cons_zero, List.getElem_cons_succ, Act.put, List.setIfInBounds_toArray, List.set_cons_zero, List.set_cons_succ]
  refine wpAnyH_ready (rs := [4]) (by kernel_rfl) (by simp) ?_
  refine AllReadyH.cons rfl (fun K hK => ?_) AllReadyH.nil
  go_simp
  (go_at_call 11; (with_reducible refine (C11.out _ hHeld).mono ?_); rintro e u1 ⟨rfl, hbq⟩; have hb1' := below_step hHeld hbq; have hq := hb1'; clear hbq)
  go_wp2_with fail
  refine hK.out _ _ ?_ (fun hHeldN => ?_)
  · (try dsimp only); (first | (with_reducible exact below_step (by assumption) hb1') | (repeat' (first | (with_reducible exact Below.refl _ _) | (with_reducible assumption) | (with_reducible exact Below.size (by assumption)) | (with_reducible refine Below.drew ?_))))
  clear hK K hHeld
  try clear hb1' hq
  have hHeld := hHeldN
  clear hHeldN
  try simp only [List.getElem_toArray, List.getElem_cons_zero, List.getElem_cons_succ, Act.put, List.setIfInBounds_toArray, List.set_cons_zero, List.set_cons_succ]
  refine wpAnyH_take (i := 5) (v := ?_) rfl (by kernel_rfl) (by kernel_rfl) (by kernel_rfl) (fun _ _ _ h => h) (Or.inl ⟨by rfl, ?_⟩) (by assumption) ?_
  rotate_left
  · (intro w hSw; (try dsimp only at hSw); go_simp; first | done | with_reducible rfl)
  try simp only [List.getElem_toArray, List.getElem_cons_zero, List.getElem_cons_succ, Act.put, List.setIfInBounds_toArray, List.set_cons_zero, List.set_cons_succ]
  refine wpAnyH_take (i := 6) (v := ?_) rfl (by kernel_rfl) (by kernel_rfl) (by kernel_rfl) (fun _ _ _ h => h) (Or.inl ⟨by rfl, ?_⟩) (by assumption) ?_
  rotate_left
  · (intro w hSw; (try dsimp only at hSw); go_simp; first | done | with_reducible rfl)
  try simp only [List.getElem_toArray, List.getElem_cons_zero, List.getElem_cons_succ, Act.put, List.setIfInBounds_toArray, List.set_cons_zero, List.set_cons_succ]
  refine wpAnyH_take (i := 7) (v := _) rfl (by kernel_rfl) (by kernel_rfl) (by kernel_rfl) (fun _ _ _ h => h) (yieldsIf_load_mid (by rfl) _ _ rfl _ _ rfl a.vals _ (fun w' q => RA.out w' q) Tryd.underlying25 rfl (by kernel_rfl)) (by assumption) ?_
  try simp only [List.getElem_toArray, List.getElem_cons_zero, List.getElem_cons_succ, Act.put, List.setIfInBounds_toArray, List.set_cons_zero, List.set_cons_succ]
  refine wpAnyH_ready (rs := [8]) (by kernel_rfl) (by simp) ?_
  refine AllReadyH.cons rfl (fun K hK => ?_) AllReadyH.nil
  go_simp
  (go_at_call 11; (with_reducible refine (C11.out _ hHeld).mono ?_); rintro e u1 ⟨rfl, hbq⟩; have hb1' := below_step hHeld hbq; have hq := hb1'; clear hbq)
  go_wp2_with fail
  refine hK.out _ _ ?_ (fun hHeldN => ?_)
  · (try dsimp only); (first | (with_reducible exact below_step (by assumption) hb1') | (repeat' (first | (with_reducible exact Below.refl _ _) | (with_reducible assumption) | (with_reducible exact Below.size (by assumption)) | (with_reducible refine Below.drew ?_))))
  clear hK K hHeld
  try clear hb1' hq
  have hHeld := hHeldN
  clear hHeldN
  try simp only [List.getElem_toArray, List.getElem_cons_zero, List.getElem_cons_succ, Act.put, List.setIfInBounds_toArray, List.set_cons_zero, List.set_cons_succ]
  refine wpAnyH_take (i := 9) (v := ?_) rfl (by kernel_rfl) (by kernel_rfl) (by kernel_rfl) (fun _ _ _ h => h) (Or.inl ⟨by rfl, ?_⟩) (by assumption) ?_
  rotate_left
  · (intro w hSw; (try dsimp only at hSw); go_simp; first | done | with_reducible rfl)
  try simp only [List.getElem_toArray, List.getElem_cons_zero, List.getElem_cons_succ, Act.put, List.setIfInBounds_toArray, List.set_cons_zero, List.set_cons_succ]
  refine wpAnyH_take (i := 10) (v := ?_) rfl (by kernel_rfl) (by kernel_rfl) (by kernel_rfl) (fun _ _ _ h => h) (Or.inl ⟨by rfl, ?_⟩) (by assumption) ?_
  rotate_left
  · (intro w hSw; (try dsimp only at hSw); go_simp; first | done | with_reducible rfl)
  try simp only [List.getElem_toArray, List.getElem_cons_zero, List.getElem_cons_succ, Act.put, List.setIfInBounds_toArray, List.set_cons_zero, List.set_cons_succ]
  refine wpAnyH_take (i := 11) (v := undef) rfl (by kernel_rfl) (by kernel_rfl) (by kernel_rfl) (fun _ _ _ h => h) (Or.inr ⟨by rfl, rfl⟩) (by assumption) ?_
  try simp only [List.getElem_toArray, List.getElem_cons_zero, List.getElem_cons_succ, Act.put, List.setIfInBounds_toArray, List.set_cons_zero, List.set_cons_succ]
  refine wpAnyH_take (i := 12) (v := undef) rfl (by kernel_rfl) (by kernel_rfl) (by kernel_rfl) (fun _ _ _ h => h) (Or.inr ⟨by rfl, rfl⟩) (by assumption) ?_
  try simp only [List.getElem_toArray, List.getElem_cons_zero, List.getElem_cons_succ, Act.put, List.setIfInBounds_toArray, List.set_cons_zero, List.set_cons_succ]
  refine wpAnyH_take (i := 13) (v := undef) rfl (by kernel_rfl) (by kernel_rfl) (by kernel_rfl) (fun _ _ _ h => h) (Or.inr ⟨by rfl, rfl⟩) (by assumption) ?_
  try simp only [List.getElem_toArray, List.getElem_cons_zero, List.getElem_cons_succ, Act.put, List.setIfInBounds_toArray, List.set_cons_zero, List.set_cons_succ]
  refine wpAnyH_take (i := 14) (v := ?_) rfl (by kernel_rfl) (by kernel_rfl) (by kernel_rfl) (fun _ _ _ h => h) (Or.inl ⟨by rfl, ?_⟩) (by assumption) ?_
  rotate_left
  · (intro w hSw; (try dsimp only at hSw); go_simp; first | done | with_reducible rfl)
  try simp only [List.getElem_toArray, List.getElem_cons_zero, List.getElem_cons_succ, Act.put, List.setIfInBounds_toArray, List.set_cons_zero, List.set_cons_succ]
  refine wpAnyH_take (i := 15) (v := ?_) rfl (by kernel_rfl) (by kernel_rfl) (by kernel_rfl) (fun _ _ _ h => h) (Or.inl ⟨by rfl, ?_⟩) (by assumption) ?_
  rotate_left
  · (intro w hSw; (try dsimp only at hSw); go_simp; first | done | with_reducible rfl)
  try simp only [List.getElem_toArray, List.getElem_cons_zero, List.getElem_cons_succ, Act.put, List.setIfInBounds_toArray, List.set_cons_zero, List.set_cons_succ]
  refine wpAnyH_done (by kernel_rfl) ?_ _
  rename_i hcur
  by_cases hrb : rightA b = true
  rotate_left
  · have e1 : rightA b = false := by simpa using hrb
    simp only [e1] at C11b
    clear e1 hrb
    go_wp2_with (first
      | (refine wpList_load_mid rfl 25 (.tmp 3) rfl w.heap.size 0 rfl a.vals _ (RA.out _ hHeld) Tryd.underlying25 rfl (by kernel_rfl) ?_)
      | (refine wpList_load_rowG (by rfl) 25 (.tmp 4) rfl (w.heap.size + 1) 0 rfl b.vals _ (RB.out _ hHeld) Tryd.underlying25 rfl (by kernel_rfl) ?_)
      | (go_at_call 11; (with_reducible refine (C11.out _ hHeld).mono ?_); rintro e u ⟨rfl, hb⟩; replace hHeld := below_step hHeld hb; clear hb)
      | (go_at_call 11; (with_reducible refine (C11b.out _ hHeld).mono ?_); rintro e u ⟨rfl, hb⟩; replace hHeld := below_step hHeld hb; clear hb)
      | fail)
    go_ret
    exact ⟨rfl, below_step HW.out hHeld⟩
  have hR := right_rightA HB.out hrb
  simp only [hrb] at C11b
  have HRB := Lib.hid hR
  clear hrb hR
  have C12 := Lib.hid (fun W2 (q : Below W.heap.size W W2) => act_Apply a h W2 (HTW.out.below q) HR.out HF.out)
  have hgf := applyN_fits HR.out HF.out 9 (by omega)
  have HGF : Hid ((applyH a h).Fits) := Lib.hid hgf
  have HGN := Lib.hid (fun j hj => getN_apply (h := h) HR.out (j := j) hj)
  have C12b := Lib.hid (fun W2 (q : Below W.heap.size W W2) => act_Apply b (applyH a h) W2 (HTW.out.below q) HRB.out HGF.out)
  have C12c := Lib.hid (fun W2 (q : Below W.heap.size W W2) => act_Apply (thenA a b) h W2 (HTW.out.below q) (thenN_right HR.out HRB.out 9 (by omega)) HF.out)
  rw [apply_then HR.out HRB.out] at C12c
  obtain ⟨g, hg⟩ : ∃ g, g = applyH a h := ⟨_, rfl⟩
  rw [← hg] at C12 HGF HGN C12b C12c
  clear hg hgf
  go_upto_region 8 with (first
      | (refine wpList_load_mid rfl 25 (.tmp 3) rfl w.heap.size 0 rfl a.vals _ (RA.out _ hHeld) Tryd.underlying25 rfl (by kernel_rfl) ?_)
      | (refine wpList_load_rowG (by rfl) 25 (.tmp 4) rfl (w.heap.size + 1) 0 rfl b.vals _ (RB.out _ hHeld) Tryd.underlying25 rfl (by kernel_rfl) ?_)
      | (refine wpList_load_mid rfl 31 (.tmp 5) rfl (w.heap.size + 2) 0 rfl h.vals _ (RH.out _ hHeld) Tryd.underlying31 rfl (by kernel_rfl) ?_)
      | (go_at_call 11; (with_reducible refine (C11.out _ hHeld).mono ?_); rintro e u ⟨rfl, hb⟩; replace hHeld := below_step hHeld hb; clear hb)
      | (go_at_call 11; (with_reducible refine (C11b.out _ hHeld).mono ?_); rintro e u ⟨rfl, hb⟩; replace hHeld := below_step hHeld hb; clear hb)
      | (go_at_call 12; (with_reducible refine (C12.out _ hHeld).mono ?_); rintro e u7 ⟨rfl, hb⟩; replace hHeld := below_step hHeld hb; clear hb; have HH7 := Lib.hid hHeld)
      | (refine wpList_store_new rfl 31 (.tmp 7) (.tmp 39) rfl u7.heap.size _ _ g.vals rfl rfl rfl rfl (by kernel_rfl) (vals_one g) ?_)
      | fail)
  refine wp_gen (fun W3 => Below W.heap.size W W3 ∧ Blk W3 u7.heap.size 31 g.vals.toArray) ⟨HH7.out.alloc HH7.out.size _, Blk.new u7 _ _⟩ ?_
  rintro W3 ⟨h3, k3⟩
  have H3 := Lib.hid h3
  have RG := Lib.hid (fun w' (q : Below W3.heap.size W3 w') => (k3.below q k3.lt).range)
  clear h3 k3 HH7 hHeld hcur C10
  obtain ⟨n7, hn7⟩ : ∃ n7, n7 = u7.heap.size := ⟨_, rfl⟩
  rw [← hn7] at RG
  rw [← hn7]
  clear hn7
  go_wp2_with fail
  go_loopw [8] (fun i wr => ∃ k : Nat, k ≤ 9 ∧ i = .int .i64 k ∧ Below W3.heap.size W3 wr) (fun i _ => 9 - (intOf i).toNat)
  case atStart => exact ⟨0, by omega, rfl, Below.refl _ _⟩
  case round =>
    obtain ⟨k, hk, rfl, hB⟩ := hrel
    by_cases hlt : k < 9
    · have hk0 : (0 : Int) ≤ (k : Int) := by omega
      have hk9 : (k : Int) < 9 := by omega
      have hk64 : (k : Int) ≤ 64 := by omega
      have hm64 : min k 64 = k := by omega
      have hku : IntKind.u64.wrap (k : Int) = k := by rw [IntKind.wrap_u64]; omega
      have hs0 := HR.out.lo
      have hs1 := HR.out.hi
      have GH := Lib.hid (fun W2 (q : Below W.heap.size W W2) => hd_Get h k W2 (HTW.out.below q) HF.out hlt)
      have GG := Lib.hid (fun W2 (q : Below W.heap.size W W2) => hd_Get g k W2 (HTW.out.below q) HGF.out hlt)
      rw [HGN.out k hlt] at GG
      have XA' := Lib.hid (fun w' (q : Below W.heap.size W w') => XA.out w' q k hlt)
      obtain ⟨y, hy⟩ : ∃ y, y = getN h k := ⟨_, rfl⟩
      rw [← hy] at GH GG
      obtain ⟨x, hx⟩ : ∃ x, x = a.val k := ⟨_, rfl⟩
      rw [← hx] at GG XA'
      clear hy hx
      go_upto_region 12 with (first
        | (refine wpList_load_mid rfl 31 (.tmp 5) rfl (w.heap.size + 2) 0 rfl h.vals _ (RH.out _ (below_step H3.out hB)) Tryd.underlying31 rfl (by kernel_rfl) ?_)
        | (go_at_call 13; (with_reducible refine (GH.out _ (below_step H3.out hB)).mono ?_); rintro e u8 ⟨rfl, hb⟩; replace hB := below_step hB hb.below; clear hb)
        | fail)
      have e0 := (XA'.out _ (below_step H3.out hB)).1
      have e1 := (XA'.out _ (below_step H3.out hB)).2
      by_cases hbb : bitB a.set k = true
      · have hbit : bits .and .i64 (a.set / 2 ^ k) 1 = 1 := by rw [bit_i64 hs0 hs1, if_pos hbb]
        rw [if_pos hbb] at GG
        clear hbb
        go_wp2_with (first
          | (refine wpList_load_mid rfl 31 (.tmp 7) rfl n7 0 rfl g.vals _ (RG.out _ hB) Tryd.underlying31 rfl (by kernel_rfl) ?_)
          | (go_at_call 13; (with_reducible refine (GG.out _ (below_step H3.out hB)).mono ?_); rintro e u9 ⟨rfl, hb⟩; replace hB := below_step hB hb.below; clear hb)
          | fail)
        go_roundw
        case rel => exact ⟨k + 1, by omega, by go_num, hB⟩
        case measure => simp [intOf]; omega
      · have hbit : bits .and .i64 (a.set / 2 ^ k) 1 = 0 := by rw [bit_i64 hs0 hs1, if_neg hbb]
        rw [if_neg hbb] at GG
        clear hbb
        go_wp2_with (first
          | (refine wpList_load_mid rfl 31 (.tmp 7) rfl n7 0 rfl g.vals _ (RG.out _ hB) Tryd.underlying31 rfl (by kernel_rfl) ?_)
          | (go_at_call 13; (with_reducible refine (GG.out _ (below_step H3.out hB)).mono ?_); rintro e u9 ⟨rfl, hb⟩; replace hB := below_step hB hb.below; clear hb)
          | fail)
        go_roundw
        case rel => exact ⟨k + 1, by omega, by go_num, hB⟩
        case measure => simp [intOf]; omega
    · have hd : decide ((k : Int) < 9) = false := decide_eq_false (by omega)
      have C14 := Lib.hid (fun W2 => act_Then a b W2 HR.out HRB.out)
      have C14a := Lib.hid (fun W2 => act_Then a a W2 HR.out HR.out)
      rw [then_self HR.out] at C14a
      have hcr := thenN_right HR.out HRB.out 9 (by omega)
      have C11c := Lib.hid (fun W2 (q : Below W.heap.size W W2) => law_right (thenA a b) W2 (HTW.out.below q) hcr.fits)
      have hcr2 : rightA (thenA a b) = true := Act9.Right.rightA hcr hcr.fits
      simp only [hcr2] at C11c
      obtain ⟨c, hc⟩ : ∃ c, c = thenA a b := ⟨_, rfl⟩
      rw [← hc] at C14 C12c C11c
      clear hcr hcr2 hc
      obtain ⟨X, hX⟩ : ∃ X, X = applyH b g := ⟨_, rfl⟩
      rw [← hX] at C12b C12c
      clear hX
      go_upto_region 17 with (first
        | (refine wpList_load_mid rfl 25 (.tmp 3) rfl w.heap.size 0 rfl a.vals _ (RA.out _ (below_step H3.out hB)) Tryd.underlying25 rfl (by kernel_rfl) ?_)
        | (refine wpList_load_mid rfl 25 (.tmp 4) rfl (w.heap.size + 1) 0 rfl b.vals _ (RB.out _ (below_step H3.out hB)) Tryd.underlying25 rfl (by kernel_rfl) ?_)
        | (go_at_call 14; (with_reducible refine (C14.out _).mono ?_); rintro e u7 ⟨rfl, hb⟩; replace hB := below_step hB hb; clear hb; have HH8 := Lib.hid hB)
        | (refine wpList_store_new rfl 25 (.tmp 10) (.tmp 65) rfl u7.heap.size _ _ c.vals rfl rfl rfl rfl (by kernel_rfl) (act_one c) ?_)
        | fail)
      refine wp_gen (fun W4 => Below W.heap.size W W4 ∧ Blk W4 u7.heap.size 25 c.vals.toArray) ⟨(below_step H3.out HH8.out).alloc (below_step H3.out HH8.out).size _, Blk.new u7 _ _⟩ ?_
      rintro W4 ⟨h4, k4⟩
      have H4 := Lib.hid h4
      have RC := Lib.hid (fun w' (q : Below W4.heap.size W4 w') => (k4.below q k4.lt).range)
      have RA4 := Lib.hid (fun w' (q : Below W4.heap.size W4 w') => RA.out w' (below_step H4.out q))
      have RB4 := Lib.hid (fun w' (q : Below W4.heap.size W4 w') => RB.out w' (below_step H4.out q))
      have RH4 := Lib.hid (fun w' (q : Below W4.heap.size W4 w') => RH.out w' (below_step H4.out q))
      have K11 := Lib.hid (fun W2 (q : Below W4.heap.size W4 W2) => C11c.out W2 (below_step H4.out q))
      have K12c := Lib.hid (fun W2 (q : Below W4.heap.size W4 W2) => C12c.out W2 (below_step H4.out q))
      have K12 := Lib.hid (fun W2 (q : Below W4.heap.size W4 W2) => C12.out W2 (below_step H4.out q))
      have K12b := Lib.hid (fun W2 (q : Below W4.heap.size W4 W2) => C12b.out W2 (below_step H4.out q))
      have K14 := Lib.hid (fun W2 (q : Below W4.heap.size W4 W2) => C14a.out W2)
      have K15 := Lib.hid (fun W2 (q : Below W4.heap.size W4 W2) => act_Cmp a b W2)
      have K15b := Lib.hid (fun W2 (q : Below W4.heap.size W4 W2) => act_Cmp b a W2)
      have hwz : IntKind.i64.wrap (-cmpA b a) = cmpA a b := by
        have := cmpA_bd b a
        rw [IntKind.wrap_i64, cmpA_neg a b]
        omega
      have hz0 := cmpA_zero a b
      have HEX : Hid (∀ w, (binOp .eql 31 (.agg X.vals.toArray) (.agg X.vals.toArray)).run Tryd.prog w = .ok (.bool true) w) := Lib.hid fun w => by rw [eql_hdr, (eqHB_iff X X).2 rfl]
      have HEA : Hid (∀ w, (binOp .eql 25 (.agg a.vals.toArray) (.agg a.vals.toArray)).run Tryd.prog w = .ok (.bool true) w) := Lib.hid fun w => by rw [eql_act, (eqAB_iff a a).2 rfl]
      have HEAB := Lib.hid (fun w => eql_act a b w)
      obtain ⟨y, hy⟩ : ∃ y, y = cmpA a b := ⟨_, rfl⟩
      obtain ⟨z, hz⟩ : ∃ z, z = cmpA b a := ⟨_, rfl⟩
      obtain ⟨t, ht⟩ : ∃ t, t = eqAB a b := ⟨_, rfl⟩
      rw [← hy] at K15 hwz hz0
      rw [← hz] at K15b hwz
      rw [← ht] at HEAB hz0
      have hWW : Below W4.heap.size W4 W4 := Below.refl _ _
      clear h4 k4 hB HH8 hy hz ht RA RB RH C11c C12c C12 C12b C14 C14a C11 C11b XA RG
      obtain ⟨n8, hn8⟩ : ∃ n8, n8 = u7.heap.size := ⟨_, rfl⟩
      rw [← hn8] at RC
      rw [← hn8]
      clear hn8
      refine wp_region_held_drew (S := (fun w' => Below W4.heap.size W4 w')) (by kernel_rfl) ?_ (fun hHeld => ?_)
      · (try dsimp only); (first | (with_reducible exact below_step (by assumption) hb1') | (repeat' (first | (with_reducible exact Below.refl _ _) | (with_reducible assumption) | (with_reducible exact Below.size (by assumption)) | (with_reducible refine Below.drew ?_))))
      refine wpAnyH_take (i := 0) (v := _) rfl (by kernel_rfl) (by kernel_rfl) (by kernel_rfl) (fun _ _ _ h => h) (yieldsIf_load_mid (by rfl) _ _ rfl _ _ rfl c.vals _ (fun w' q => RC.out w' q) Tryd.underlying25 rfl (by kernel_rfl)) (by assumption) ?_
      try simp only [List.getElem_toArray, List.getElem_cons_zero, List.getElem_cons_succ, Act.put, List.setIfInBounds_toArray, List.set_cons_zero, List.set_cons_succ]
      refine wpAnyH_ready (rs := [1]) (by kernel_rfl) (by simp) ?_
      refine AllReadyH.cons rfl (fun K hK => ?_) AllReadyH.nil
      go_simp
      (go_at_call 11; (with_reducible refine (K11.out _ hHeld).mono ?_); rintro e u1 ⟨rfl, hbq⟩; have hb1' := below_step hHeld hbq; have hq := hb1'; clear hbq)
      go_wp2_with fail
      refine hK.out _ _ ?_ (fun hHeldN => ?_)
      · (try dsimp only); (first | (with_reducible exact below_step (by assumption) hb1') | (repeat' (first | (with_reducible exact Below.refl _ _) | (with_reducible assumption) | (with_reducible exact Below.size (by assumption)) | (with_reducible refine Below.drew ?_))))
      clear hK K hHeld
      try clear hb1' hq
      have hHeld := hHeldN
      clear hHeldN
      try simp only [List.getElem_toArray, List.getElem_cons_zero, List.getElem_cons_succ, Act.put, List.setIfInBounds_toArray, List.set_cons_zero, List.set_cons_succ]
      refine wpAnyH_take (i := 2) (v := ?_) rfl (by kernel_rfl) (by kernel_rfl) (by kernel_rfl) (fun _ _ _ h => h) (Or.inl ⟨by rfl, ?_⟩) (by assumption) ?_
      rotate_left
      · (intro w hSw; (try dsimp only at hSw); go_simp; first | done | with_reducible rfl)
      try simp only [List.getElem_toArray, List.getElem_cons_zero, List.getElem_cons_succ, Act.put, List.setIfInBounds_toArray, List.set_cons_zero, List.set_cons_succ]
      refine wpAnyH_take (i := 3) (v := _) rfl (by kernel_rfl) (by kernel_rfl) (by kernel_rfl) (fun _ _ _ h => h) (yieldsIf_load_mid (by rfl) _ _ rfl _ _ rfl c.vals _ (fun w' q => RC.out w' q) Tryd.underlying25 rfl (by kernel_rfl)) (by assumption) ?_
      try simp only [List.getElem_toArray, List.getElem_cons_zero, List.getElem_cons_succ, Act.put, List.setIfInBounds_toArray, List.set_cons_zero, List.set_cons_succ]
      refine wpAnyH_take (i := 4) (v := _) rfl (by kernel_rfl) (by kernel_rfl) (by kernel_rfl) (fun _ _ _ h => h) (yieldsIf_load_mid (by rfl) _ _ rfl _ _ rfl h.vals _ (fun w' q => RH4.out w' q) Tryd.underlying31 rfl (by kernel_rfl)) (by assumption) ?_
      try simp only [List.getElem_toArray, List.getElem_cons_zero, List.getElem_cons_succ, Act.put, List.setIfInBounds_toArray, List.set_cons_zero, List.set_cons_succ]
      refine wpAnyH_take (i := 6) (v := _) rfl (by kernel_rfl) (by kernel_rfl) (by kernel_rfl) (fun _ _ _ h => h) (yieldsIf_load_mid (by rfl) _ _ rfl _ _ rfl b.vals _ (fun w' q => RB4.out w' q) Tryd.underlying25 rfl (by kernel_rfl)) (by assumption) ?_
      try simp only [List.getElem_toArray, List.getElem_cons_zero, List.getElem_cons_succ, Act.put, List.setIfInBounds_toArray, List.set_cons_zero, List.set_cons_succ]
      refine wpAnyH_take (i := 7) (v := _) rfl (by kernel_rfl) (by kernel_rfl) (by kernel_rfl) (fun _ _ _ h => h) (yieldsIf_load_mid (by rfl) _ _ rfl _ _ rfl a.vals _ (fun w' q => RA4.out w' q) Tryd.underlying25 rfl (by kernel_rfl)) (by assumption) ?_
      try simp only [List.getElem_toArray, List.getElem_cons_zero, List.getElem_cons_succ, Act.put, List.setIfInBounds_toArray, List.set_cons_zero, List.set_cons_succ]
      refine wpAnyH_take (i := 8) (v := _) rfl (by kernel_rfl) (by kernel_rfl) (by kernel_rfl) (fun _ _ _ h => h) (yieldsIf_load_mid (by rfl) _ _ rfl _ _ rfl h.vals _ (fun w' q => RH4.out w' q) Tryd.underlying31 rfl (by kernel_rfl)) (by assumption) ?_
      try simp only [List.getElem_toArray, List.getElem_cons_zero, List.getElem_cons_succ, Act.put, List.setIfInBounds_toArray, List.set_cons_zero, List.set_cons_succ]
      refine wpAnyH_ready (rs := [5]) (by kernel_rfl) (by simp) ?_
      refine AllReadyH.cons rfl (fun K hK => ?_) AllReadyH.nil
      go_simp
      (go_at_call 12; (with_reducible refine (K12c.out _ hHeld).mono ?_); rintro e u1 ⟨rfl, hbq⟩; have hb1' := below_step hHeld hbq; have hq := hb1'; clear hbq)
      go_wp2_with fail
      refine hK.out _ _ ?_ (fun hHeldN => ?_)
      · (try dsimp only); (first | (with_reducible exact below_step (by assumption) hb1') | (repeat' (first | (with_reducible exact Below.refl _ _) | (with_reducible assumption) | (with_reducible exact Below.size (by assumption)) | (with_reducible refine Below.drew ?_))))
      clear hK K hHeld
      try clear hb1' hq
      have hHeld := hHeldN
      clear hHeldN
      try simp only [List.getElem_toArray, List.getElem_cons_zero, List.getElem_cons_succ, Act.put, List.setIfInBounds_toArray, List.set_cons_zero, List.set_cons_succ]
      refine wpAnyH_ready (rs := [9]) (by kernel_rfl) (by simp) ?_
      refine AllReadyH.cons rfl (fun K hK => ?_) AllReadyH.nil
      go_simp
      (go_at_call 12; (with_reducible refine (K12.out _ hHeld).mono ?_); rintro e u1 ⟨rfl, hbq⟩; have hb1' := below_step hHeld hbq; have hq := hb1'; clear hbq)
      go_wp2_with fail
      refine hK.out _ _ ?_ (fun hHeldN => ?_)
      · (try dsimp only); (first | (with_reducible exact below_step (by assumption) hb1') | (repeat' (first | (with_reducible exact Below.refl _ _) | (with_reducible assumption) | (with_reducible exact Below.size (by assumption)) | (with_reducible refine Below.drew ?_))))
      clear hK K hHeld
      try clear hb1' hq
      have hHeld := hHeldN
      clear hHeldN
      try simp only [List.getElem_toArray, List.getElem_cons_zero, List.getElem_cons_succ, Act.put, List.setIfInBounds_toArray, List.set_cons_zero, List.set_cons_succ]
      refine wpAnyH_ready (rs := [10]) (by kernel_rfl) (by simp) ?_
      refine AllReadyH.cons rfl (fun K hK => ?_) AllReadyH.nil
      go_simp
      (go_at_call 12; (with_reducible refine (K12b.out _ hHeld).mono ?_); rintro e u1 ⟨rfl, hbq⟩; have hb1' := below_step hHeld hbq; have hq := hb1'; clear hbq)
      go_wp2_with fail
      refine hK.out _ _ ?_ (fun hHeldN => ?_)
      · (try dsimp only); (first | (with_reducible exact below_step (by assumption) hb1') | (repeat' (first | (with_reducible exact Below.refl _ _) | (with_reducible assumption) | (with_reducible exact Below.size (by assumption)) | (with_reducible refine Below.drew ?_))))
      clear hK K hHeld
      try clear hb1' hq
      have hHeld := hHeldN
      clear hHeldN
      try simp only [List.getElem_toArray, List.getElem_cons_zero, List.getElem_cons_succ, Act.put, List.setIfInBounds_toArray, List.set_cons_zero, List.set_cons_succ]
      refine wpAnyH_take (i := 11) (v := _) rfl (by kernel_rfl) (by kernel_rfl) (by kernel_rfl) (fun _ _ _ h => h) (yields_eqv (by rfl) .eql _ _ _ _ rfl X.vals.toArray X.vals.toArray rfl rfl (.bool true) (by kernel_rfl) HEX.out) (by assumption) ?_
      try simp only [List.getElem_toArray, List.getElem_cons_zero, List.getElem_cons_succ, Act.put, List.setIfInBounds_toArray, List.set_cons_zero, List.set_cons_succ]
      refine wpAnyH_take (i := 12) (v := ?_) rfl (by kernel_rfl) (by kernel_rfl) (by kernel_rfl) (fun _ _ _ h => h) (Or.inl ⟨by rfl, ?_⟩) (by assumption) ?_
      rotate_left
      · (intro w hSw; (try dsimp only at hSw); go_simp; first | done | with_reducible rfl)
      try simp only [List.getElem_toArray, List.getElem_cons_zero, List.getElem_cons_succ, Act.put, List.setIfInBounds_toArray, List.set_cons_zero, List.set_cons_succ]
      refine wpAnyH_take (i := 13) (v := ?_) rfl (by kernel_rfl) (by kernel_rfl) (by kernel_rfl) (fun _ _ _ h => h) (Or.inl ⟨by rfl, ?_⟩) (by assumption) ?_
      rotate_left
      · (intro w hSw; (try dsimp only at hSw); go_simp; first | done | with_reducible rfl)
      try simp only [List.getElem_toArray, List.getElem_cons_zero, List.getElem_cons_succ, Act.put, List.setIfInBounds_toArray, List.set_cons_zero, List.set_cons_succ]
      refine wpAnyH_take (i := 14) (v := _) rfl (by kernel_rfl) (by kernel_rfl) (by kernel_rfl) (fun _ _ _ h => h) (yieldsIf_load_mid (by rfl) _ _ rfl _ _ rfl a.vals _ (fun w' q => RA4.out w' q) Tryd.underlying25 rfl (by kernel_rfl)) (by assumption) ?_
      try simp only [List.getElem_toArray, List.getElem_cons_zero, List.getElem_cons_succ, Act.put, List.setIfInBounds_toArray, List.set_cons_zero, List.set_cons_succ]
      refine wpAnyH_take (i := 15) (v := _) rfl (by kernel_rfl) (by kernel_rfl) (by kernel_rfl) (fun _ _ _ h => h) (yieldsIf_load_mid (by rfl) _ _ rfl _ _ rfl a.vals _ (fun w' q => RA4.out w' q) Tryd.underlying25 rfl (by kernel_rfl)) (by assumption) ?_
      try simp only [List.getElem_toArray, List.getElem_cons_zero, List.getElem_cons_succ, Act.put, List.setIfInBounds_toArray, List.set_cons_zero, List.set_cons_succ]
      refine wpAnyH_take (i := 17) (v := _) rfl (by kernel_rfl) (by kernel_rfl) (by kernel_rfl) (fun _ _ _ h => h) (yieldsIf_load_mid (by rfl) _ _ rfl _ _ rfl a.vals _ (fun w' q => RA4.out w' q) Tryd.underlying25 rfl (by kernel_rfl)) (by assumption) ?_
      try simp only [List.getElem_toArray, List.getElem_cons_zero, List.getElem_cons_succ, Act.put, List.setIfInBounds_toArray, List.set_cons_zero, List.set_cons_succ]
      refine wpAnyH_ready (rs := [16]) (by kernel_rfl) (by simp) ?_
      refine AllReadyH.cons rfl (fun K hK => ?_) AllReadyH.nil
      go_simp
      (go_at_call 14; (with_reducible refine (K14.out _ hHeld).mono ?_); rintro e u1 ⟨rfl, hbq⟩; have hb1' := below_step hHeld hbq; have hq := hb1'; clear hbq)
      go_wp2_with fail
      refine hK.out _ _ ?_ (fun hHeldN => ?_)
      · (try dsimp only); (first | (with_reducible exact below_step (by assumption) hb1') | (repeat' (first | (with_reducible exact Below.refl _ _) | (with_reducible assumption) | (with_reducible exact Below.size (by assumption)) | (with_reducible refine Below.drew ?_))))
      clear hK K hHeld
      try clear hb1' hq
      have hHeld := hHeldN
      clear hHeldN
      try simp only [List.getElem_toArray, List.getElem_cons_zero, List.getElem_cons_succ, Act.put, List.setIfInBounds_toArray, List.set_cons_zero, List.set_cons_succ]
      refine wpAnyH_take (i := 18) (v := _) rfl (by kernel_rfl) (by kernel_rfl) (by kernel_rfl) (fun _ _ _ h => h) (yields_eqv (by rfl) .eql _ _ _ _ rfl a.vals.toArray a.vals.toArray rfl rfl (.bool true) (by kernel_rfl) HEA.out) (by assumption) ?_
      try simp only [List.getElem_toArray, List.getElem_cons_zero, List.getElem_cons_succ, Act.put, List.setIfInBounds_toArray, List.set_cons_zero, List.set_cons_succ]
      refine wpAnyH_take (i := 19) (v := ?_) rfl (by kernel_rfl) (by kernel_rfl) (by kernel_rfl) (fun _ _ _ h => h) (Or.inl ⟨by rfl, ?_⟩) (by assumption) ?_
      rotate_left
      · (intro w hSw; (try dsimp only at hSw); go_simp; first | done | with_reducible rfl)
      try simp only [List.getElem_toArray, List.getElem_cons_zero, List.getElem_cons_succ, Act.put, List.setIfInBounds_toArray, List.set_cons_zero, List.set_cons_succ]
      refine wpAnyH_take (i := 20) (v := ?_) rfl (by kernel_rfl) (by kernel_rfl) (by kernel_rfl) (fun _ _ _ h => h) (Or.inl ⟨by rfl, ?_⟩) (by assumption) ?_
      rotate_left
      · (intro w hSw; (try dsimp only at hSw); go_simp; first | done | with_reducible rfl)
      try simp only [List.getElem_toArray, List.getElem_cons_zero, List.getElem_cons_succ, Act.put, List.setIfInBounds_toArray, List.set_cons_zero, List.set_cons_succ]
      refine wpAnyH_take (i := 21) (v := _) rfl (by kernel_rfl) (by kernel_rfl) (by kernel_rfl) (fun _ _ _ h => h) (yieldsIf_load_mid (by rfl) _ _ rfl _ _ rfl a.vals _ (fun w' q => RA4.out w' q) Tryd.underlying25 rfl (by kernel_rfl)) (by assumption) ?_
      try simp only [List.getElem_toArray, List.getElem_cons_zero, List.getElem_cons_succ, Act.put, List.setIfInBounds_toArray, List.set_cons_zero, List.set_cons_succ]
      refine wpAnyH_take (i := 22) (v := _) rfl (by kernel_rfl) (by kernel_rfl) (by kernel_rfl) (fun _ _ _ h => h) (yieldsIf_load_mid (by rfl) _ _ rfl _ _ rfl b.vals _ (fun w' q => RB4.out w' q) Tryd.underlying25 rfl (by kernel_rfl)) (by assumption) ?_
      try simp only [List.getElem_toArray, List.getElem_cons_zero, List.getElem_cons_succ, Act.put, List.setIfInBounds_toArray, List.set_cons_zero, List.set_cons_succ]
      refine wpAnyH_take (i := 24) (v := _) rfl (by kernel_rfl) (by kernel_rfl) (by kernel_rfl) (fun _ _ _ h => h) (yieldsIf_load_mid (by rfl) _ _ rfl _ _ rfl b.vals _ (fun w' q => RB4.out w' q) Tryd.underlying25 rfl (by kernel_rfl)) (by assumption) ?_
      try simp only [List.getElem_toArray, List.getElem_cons_zero, List.getElem_cons_succ, Act.put, List.setIfInBounds_toArray, List.set_cons_zero, List.set_cons_succ]
      refine wpAnyH_take (i := 25) (v := _) rfl (by kernel_rfl) (by kernel_rfl) (by kernel_rfl) (fun _ _ _ h => h) (yieldsIf_load_mid (by rfl) _ _ rfl _ _ rfl a.vals _ (fun w' q => RA4.out w' q) Tryd.underlying25 rfl (by kernel_rfl)) (by assumption) ?_
      try simp only [List.getElem_toArray, List.getElem_cons_zero, List.getElem_cons_succ, Act.put, List.setIfInBounds_toArray, List.set_cons_zero, List.set_cons_succ]
      refine wpAnyH_ready (rs := [23]) (by kernel_rfl) (by simp) ?_
      refine AllReadyH.cons rfl (fun K hK => ?_) AllReadyH.nil
      go_simp
      (go_at_call 15; (with_reducible refine (K15.out _ hHeld).mono ?_); rintro e u1 ⟨rfl, hbq⟩; have hb1' := below_step hHeld hbq; have hq := hb1'; clear hbq)
      go_wp2_with fail
      refine hK.out _ _ ?_ (fun hHeldN => ?_)
      · (try dsimp only); (first | (with_reducible exact below_step (by assumption) hb1') | (repeat' (first | (with_reducible exact Below.refl _ _) | (with_reducible assumption) | (with_reducible exact Below.size (by assumption)) | (with_reducible refine Below.drew ?_))))
      clear hK K hHeld
      try clear hb1' hq
      have hHeld := hHeldN
      clear hHeldN
      try simp only [List.getElem_toArray, List.getElem_cons_zero, List.getElem_cons_succ, Act.put, List.setIfInBounds_toArray, List.set_cons_zero, List.set_cons_succ]
      refine wpAnyH_ready (rs := [26]) (by kernel_rfl) (by simp) ?_
      refine AllReadyH.cons rfl (fun K hK => ?_) AllReadyH.nil
      go_simp
      (go_at_call 15; (with_reducible refine (K15b.out _ hHeld).mono ?_); rintro e u1 ⟨rfl, hbq⟩; have hb1' := below_step hHeld hbq; have hq := hb1'; clear hbq)
      go_wp2_with fail
      refine hK.out _ _ ?_ (fun hHeldN => ?_)
      · (try dsimp only); (first | (with_reducible exact below_step (by assumption) hb1') | (repeat' (first | (with_reducible exact Below.refl _ _) | (with_reducible assumption) | (with_reducible exact Below.size (by assumption)) | (with_reducible refine Below.drew ?_))))
      clear hK K hHeld
      try clear hb1' hq
      have hHeld := hHeldN
      clear hHeldN
      try simp only [List.getElem_toArray, List.getElem_cons_zero, List.getElem_cons_succ, Act.put, List.setIfInBounds_toArray, List.set_cons_zero, List.set_cons_succ]
      refine wpAnyH_take (i := 27) (v := ?_) rfl (by kernel_rfl) (by kernel_rfl) (by kernel_rfl) (fun _ _ _ h => h) (Or.inl ⟨by rfl, ?_⟩) (by assumption) ?_
      rotate_left
      · (intro w hSw; (try dsimp only at hSw); go_simp; first | done | with_reducible rfl)
      try simp only [List.getElem_toArray, List.getElem_cons_zero, List.getElem_cons_succ, Act.put, List.setIfInBounds_toArray, List.set_cons_zero, List.set_cons_succ]
      refine wpAnyH_take (i := 28) (v := ?_) rfl (by kernel_rfl) (by kernel_rfl) (by kernel_rfl) (fun _ _ _ h => h) (Or.inl ⟨by rfl, ?_⟩) (by assumption) ?_
      rotate_left
      · (intro w hSw; (try dsimp only at hSw); go_simp; first | done | with_reducible rfl)
      try simp only [List.getElem_toArray, List.getElem_cons_zero, List.getElem_cons_succ, Act.put, List.setIfInBounds_toArray, List.set_cons_zero, List.set_cons_succ]
      refine wpAnyH_take (i := 29) (v := ?_) rfl (by kernel_rfl) (by kernel_rfl) (by kernel_rfl) (fun _ _ _ h => h) (Or.inl ⟨by rfl, ?_⟩) (by assumption) ?_
      rotate_left
      · (intro w hSw; (try dsimp only at hSw); go_simp; first | done | with_reducible rfl)
      try simp only [List.getElem_toArray, List.getElem_cons_zero, List.getElem_cons_succ, Act.put, List.setIfInBounds_toArray, List.set_cons_zero, List.set_cons_succ]
      refine wpAnyH_take (i := 30) (v := ?_) rfl (by kernel_rfl) (by kernel_rfl) (by kernel_rfl) (fun _ _ _ h => h) (Or.inl ⟨by rfl, ?_⟩) (by assumption) ?_
      rotate_left
      · (intro w hSw; (try dsimp only at hSw); go_simp; first | done | with_reducible rfl)
      try simp only [List.getElem_toArray, List.getElem_cons_zero, List.getElem_cons_succ, Act.put, List.setIfInBounds_toArray, List.set_cons_zero, List.set_cons_succ]
      refine wpAnyH_take (i := 31) (v := _) rfl (by kernel_rfl) (by kernel_rfl) (by kernel_rfl) (fun _ _ _ h => h) (yieldsIf_load_mid (by rfl) _ _ rfl _ _ rfl a.vals _ (fun w' q => RA4.out w' q) Tryd.underlying25 rfl (by kernel_rfl)) (by assumption) ?_
      try simp only [List.getElem_toArray, List.getElem_cons_zero, List.getElem_cons_succ, Act.put, List.setIfInBounds_toArray, List.set_cons_zero, List.set_cons_succ]
      refine wpAnyH_take (i := 32) (v := _) rfl (by kernel_rfl) (by kernel_rfl) (by kernel_rfl) (fun _ _ _ h => h) (yieldsIf_load_mid (by rfl) _ _ rfl _ _ rfl b.vals _ (fun w' q => RB4.out w' q) Tryd.underlying25 rfl (by kernel_rfl)) (by assumption) ?_
      try simp only [List.getElem_toArray, List.getElem_cons_zero, List.getElem_cons_succ, Act.put, List.setIfInBounds_toArray, List.set_cons_zero, List.set_cons_succ]
      refine wpAnyH_take (i := 35) (v := _) rfl (by kernel_rfl) (by kernel_rfl) (by kernel_rfl) (fun _ _ _ h => h) (yieldsIf_load_mid (by rfl) _ _ rfl _ _ rfl a.vals _ (fun w' q => RA4.out w' q) Tryd.underlying25 rfl (by kernel_rfl)) (by assumption) ?_
      try simp only [List.getElem_toArray, List.getElem_cons_zero, List.getElem_cons_succ, Act.put, List.setIfInBounds_toArray, List.set_cons_zero, List.set_cons_succ]
      refine wpAnyH_take (i := 36) (v := _) rfl (by kernel_rfl) (by kernel_rfl) (by kernel_rfl) (fun _ _ _ h => h) (yieldsIf_load_mid (by rfl) _ _ rfl _ _ rfl b.vals _ (fun w' q => RB4.out w' q) Tryd.underlying25 rfl (by kernel_rfl)) (by assumption) ?_
      try simp only [List.getElem_toArray, List.getElem_cons_zero, List.getElem_cons_succ, Act.put, List.setIfInBounds_toArray, List.set_cons_zero, List.set_cons_succ]
      refine wpAnyH_take (i := 37) (v := _) rfl (by kernel_rfl) (by kernel_rfl) (by kernel_rfl) (fun _ _ _ h => h) (yields_eqv (by rfl) .eql _ _ _ _ rfl a.vals.toArray b.vals.toArray rfl rfl (.bool t) (by kernel_rfl) HEAB.out) (by assumption) ?_
      try simp only [List.getElem_toArray, List.getElem_cons_zero, List.getElem_cons_succ, Act.put, List.setIfInBounds_toArray, List.set_cons_zero, List.set_cons_succ]
      refine wpAnyH_ready (rs := [33]) (by kernel_rfl) (by simp) ?_
      refine AllReadyH.cons rfl (fun K hK => ?_) AllReadyH.nil
      go_simp
      (go_at_call 15; (with_reducible refine (K15.out _ hHeld).mono ?_); rintro e u1 ⟨rfl, hbq⟩; have hb1' := below_step hHeld hbq; have hq := hb1'; clear hbq)
      go_wp2_with fail
      refine hK.out _ _ ?_ (fun hHeldN => ?_)
      · (try dsimp only); (first | (with_reducible exact below_step (by assumption) hb1') | (repeat' (first | (with_reducible exact Below.refl _ _) | (with_reducible assumption) | (with_reducible exact Below.size (by assumption)) | (with_reducible refine Below.drew ?_))))
      clear hK K hHeld
      try clear hb1' hq
      have hHeld := hHeldN
      clear hHeldN
      try simp only [List.getElem_toArray, List.getElem_cons_zero, List.getElem_cons_succ, Act.put, List.setIfInBounds_toArray, List.set_cons_zero, List.set_cons_succ]
      refine wpAnyH_take (i := 34) (v := ?_) rfl (by kernel_rfl) (by kernel_rfl) (by kernel_rfl) (fun _ _ _ h => h) (Or.inl ⟨by rfl, ?_⟩) (by assumption) ?_
      rotate_left
      · (intro w hSw; (try dsimp only at hSw); go_simp; first | done | with_reducible rfl)
      try simp only [List.getElem_toArray, List.getElem_cons_zero, List.getElem_cons_succ, Act.put, List.setIfInBounds_toArray, List.set_cons_zero, List.set_cons_succ]
      refine wpAnyH_take (i := 38) (v := ?_) rfl (by kernel_rfl) (by kernel_rfl) (by kernel_rfl) (fun _ _ _ h => h) (Or.inl ⟨by rfl, ?_⟩) (by assumption) ?_
      rotate_left
      · (intro w hSw; (try dsimp only at hSw); go_simp; first | done | with_reducible rfl)
      try simp only [List.getElem_toArray, List.getElem_cons_zero, List.getElem_cons_succ, Act.put, List.setIfInBounds_toArray, List.set_cons_zero, List.set_cons_succ]
      refine wpAnyH_take (i := 39) (v := ?_) rfl (by kernel_rfl) (by kernel_rfl) (by kernel_rfl) (fun _ _ _ h => h) (Or.inl ⟨by rfl, ?_⟩) (by assumption) ?_
      rotate_left
      · (intro w hSw; (try dsimp only at hSw); go_simp; first | done | with_reducible rfl)
      try simp only [List.getElem_toArray, List.getElem_cons_zero, List.getElem_cons_succ, Act.put, List.setIfInBounds_toArray, List.set_cons_zero, List.set_cons_succ]
      refine wpAnyH_take (i := 40) (v := ?_) rfl (by kernel_rfl) (by kernel_rfl) (by kernel_rfl) (fun _ _ _ h => h) (Or.inl ⟨by rfl, ?_⟩) (by assumption) ?_
      rotate_left
      · (intro w hSw; (try dsimp only at hSw); go_simp; first | done | with_reducible rfl)
      try simp only [List.getElem_toArray, List.getElem_cons_zero, List.getElem_cons_succ, Act.put, List.setIfInBounds_toArray, List.set_cons_zero, List.set_cons_succ]
      refine wpAnyH_done (by kernel_rfl) ?_ _
      rename_i hcur
      go_wp2_with fail
      go_ret
      exact ⟨rfl, below_step HW.out (below_step H4.out hHeld)⟩
end Go.Proofs.YtjeligbgcofaeaaDoor
