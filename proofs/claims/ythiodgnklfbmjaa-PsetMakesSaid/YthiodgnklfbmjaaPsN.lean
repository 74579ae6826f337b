/- Prefix.Has and Prefix.Half. -/
import Derived.Test.YthiodgnklfbmjaaPsM
namespace Go.Proofs.Ythiodgnklfbmjaa
open Go.RowKit
set_option linter.unusedVariables false
set_option linter.unusedSimpArgs false

def hasP (p : Pfx) (x : Int) : Bool := p.good && (bits .and .u32 x (maskI p.len) == p.addr)
set_option maxHeartbeats 2000000 in
theorem ip_Has (a l x : Int) (w : World) (hf : (Pfx.mk a l).Fits) (hx : 0 ≤ x ∧ x ≤ 4294967295) :
    Calls Try.prog 25 #[.agg #[.int .u32 a, .int .i64 l], .int .u32 x] w fun e w' => e = .returned (.bool (hasP ⟨a, l⟩ x)) ∧ Below w.heap.size w w' := by
  obtain ⟨g, hg⟩ : ∃ g, g = (Pfx.mk a l).good := ⟨_, rfl⟩
  obtain ⟨m, hm⟩ : ∃ m, m = maskI l := ⟨_, rfl⟩
  have hl := hf.len
  have hc := fun W => ip_Check ⟨a, l⟩ W hf
  rw [← hg] at hc
  have hk := fun W => ip_Mask l W hl.1 hl.2
  rw [← hm] at hk
  have he : hasP ⟨a, l⟩ x = (g && (bits .and .u32 x m == a)) := by rw [hg, hm]; rfl
  rw [he]
  have Hc := Lib.hid hc
  have Hk := Lib.hid hk
  have hW0 : Below w.heap.size w (w.alloc (.cells #[.int .u32 a, .int .i64 l] 35)) := (Below.refl _ _).alloc (Nat.le_refl _) _
  have HW0 := Lib.hid hW0
  have hk0 := Lib.hid (Blk.new w 35 #[.int .u32 a, .int .i64 l])
  clear hc hk he hg hm hl hW0
  cases g
  · go_enter Try.func25, Try.ntmps25
    go_upto_region 1 with fail
    refine wp_gen (fun W => Below w.heap.size w W ∧ Blk W w.heap.size 35 #[.int .u32 a, .int .i64 l]) ⟨HW0.out, hk0.out⟩ ?_
    rintro W ⟨hW, hk1⟩
    have x1 : ∀ w' o, Below W.heap.size W w' → w'.cell? ⟨w.heap.size, o, none⟩ = (#[.int .u32 a, .int .i64 l] : Array Value)[o]? := fun w' o h => (hk1.below h hk1.lt).cell o
    have HW := Lib.hid hW
    have hWW := Below.refl W.heap.size W
    have hWd := hWW.drew
    clear hk1 hW
    refine wp_region_held_drew (S := (fun w' => Below W.heap.size W w')) (by kernel_rfl) ?_ (fun hHeld => ?_)
    · (try dsimp only); (first | (with_reducible exact below_step (by assumption) hb1') | (repeat' (first | (with_reducible exact Below.refl _ _) | (with_reducible assumption) | (with_reducible exact Below.size (by assumption)) | (with_reducible refine Below.drew ?_))))
    refine wpAnyH_take (i := 0) (v := ?_) rfl (by kernel_rfl) (by kernel_rfl) (by kernel_rfl) (fun _ _ _ h => h) (Or.inl ⟨by rfl, ?_⟩) (by assumption) ?_
    rotate_left
    · (intro w hSw; (try dsimp only at hSw); go_simp; first | done | with_reducible rfl)
    try simp only [List.getElem_toArray, List.getElem_cons_zero, List.getElem_cons_succ, Act.put, List.setIfInBounds_toArray, List.set_cons_zero, List.set_cons_succ]
    refine wpAnyH_ready (rs := [1]) (by kernel_rfl) (by simp) ?_
    refine AllReadyH.cons rfl (fun K hK => ?_) AllReadyH.nil
    go_wp2_with ((go_at_call 31; (with_reducible refine (Hc.out _).mono ?_); rintro e u1 ⟨rfl, hb1'⟩; have hq : Below W.heap.size W u1 := below_step (by first | exact hWd | exact hWW) hb1'))
    refine hK.out _ _ ?_ (fun hHeld => ?_)
    · (try dsimp only); (first | (with_reducible exact below_step (by assumption) hb1') | (repeat' (first | (with_reducible exact Below.refl _ _) | (with_reducible assumption) | (with_reducible exact Below.size (by assumption)) | (with_reducible refine Below.drew ?_))))
    clear hK K
    try simp only [List.getElem_toArray, List.getElem_cons_zero, List.getElem_cons_succ, Act.put, List.setIfInBounds_toArray, List.set_cons_zero, List.set_cons_succ]
    refine wpAnyH_take (i := 2) (v := ?_) rfl (by kernel_rfl) (by kernel_rfl) (by kernel_rfl) (fun _ _ _ h => h) (Or.inl ⟨by rfl, ?_⟩) (by assumption) ?_
    rotate_left
    · (intro w hSw; (try dsimp only at hSw); go_simp; first | done | with_reducible rfl)
    try simp only [List.getElem_toArray, List.getElem_cons_zero, List.getElem_cons_succ, Act.put, List.setIfInBounds_toArray, List.set_cons_zero, List.set_cons_succ]
    refine wpAnyH_take (i := 3) (v := ?_) rfl (by kernel_rfl) (by kernel_rfl) (by kernel_rfl) (fun _ _ _ h => h) (Or.inl ⟨by rfl, ?_⟩) (by assumption) ?_
    rotate_left
    · (intro w hSw; (try dsimp only at hSw); go_simp; first | done | with_reducible rfl)
    try simp only [List.getElem_toArray, List.getElem_cons_zero, List.getElem_cons_succ, Act.put, List.setIfInBounds_toArray, List.set_cons_zero, List.set_cons_succ]
    refine wpAnyH_take (i := 4) (v := undef) rfl (by kernel_rfl) (by kernel_rfl) (by kernel_rfl) (fun _ _ _ h => h) (Or.inr ⟨by rfl, rfl⟩) (by assumption) ?_
    try simp only [List.getElem_toArray, List.getElem_cons_zero, List.getElem_cons_succ, Act.put, List.setIfInBounds_toArray, List.set_cons_zero, List.set_cons_succ]
    refine wpAnyH_take (i := 5) (v := undef) rfl (by kernel_rfl) (by kernel_rfl) (by kernel_rfl) (fun _ _ _ h => h) (Or.inr ⟨by rfl, rfl⟩) (by assumption) ?_
    try simp only [List.getElem_toArray, List.getElem_cons_zero, List.getElem_cons_succ, Act.put, List.setIfInBounds_toArray, List.set_cons_zero, List.set_cons_succ]
    refine wpAnyH_take (i := 6) (v := undef) rfl (by kernel_rfl) (by kernel_rfl) (by kernel_rfl) (fun _ _ _ h => h) (Or.inr ⟨by rfl, rfl⟩) (by assumption) ?_
    try simp only [List.getElem_toArray, List.getElem_cons_zero, List.getElem_cons_succ, Act.put, List.setIfInBounds_toArray, List.set_cons_zero, List.set_cons_succ]
    refine wpAnyH_take (i := 7) (v := undef) rfl (by kernel_rfl) (by kernel_rfl) (by kernel_rfl) (fun _ _ _ h => h) (Or.inr ⟨by rfl, rfl⟩) (by assumption) ?_
    try simp only [List.getElem_toArray, List.getElem_cons_zero, List.getElem_cons_succ, Act.put, List.setIfInBounds_toArray, List.set_cons_zero, List.set_cons_succ]
    refine wpAnyH_take (i := 8) (v := undef) rfl (by kernel_rfl) (by kernel_rfl) (by kernel_rfl) (fun _ _ _ h => h) (Or.inr ⟨by rfl, rfl⟩) (by assumption) ?_
    try simp only [List.getElem_toArray, List.getElem_cons_zero, List.getElem_cons_succ, Act.put, List.setIfInBounds_toArray, List.set_cons_zero, List.set_cons_succ]
    refine wpAnyH_take (i := 9) (v := undef) rfl (by kernel_rfl) (by kernel_rfl) (by kernel_rfl) (fun _ _ _ h => h) (Or.inr ⟨by rfl, rfl⟩) (by assumption) ?_
    try simp only [List.getElem_toArray, List.getElem_cons_zero, List.getElem_cons_succ, Act.put, List.setIfInBounds_toArray, List.set_cons_zero, List.set_cons_succ]
    refine wpAnyH_take (i := 10) (v := undef) rfl (by kernel_rfl) (by kernel_rfl) (by kernel_rfl) (fun _ _ _ h => h) (Or.inr ⟨by rfl, rfl⟩) (by assumption) ?_
    try simp only [List.getElem_toArray, List.getElem_cons_zero, List.getElem_cons_succ, Act.put, List.setIfInBounds_toArray, List.set_cons_zero, List.set_cons_succ]
    refine wpAnyH_take (i := 11) (v := undef) rfl (by kernel_rfl) (by kernel_rfl) (by kernel_rfl) (fun _ _ _ h => h) (Or.inr ⟨by rfl, rfl⟩) (by assumption) ?_
    try simp only [List.getElem_toArray, List.getElem_cons_zero, List.getElem_cons_succ, Act.put, List.setIfInBounds_toArray, List.set_cons_zero, List.set_cons_succ]
    refine wpAnyH_take (i := 12) (v := ?_) rfl (by kernel_rfl) (by kernel_rfl) (by kernel_rfl) (fun _ _ _ h => h) (Or.inl ⟨by rfl, ?_⟩) (by assumption) ?_
    rotate_left
    · (intro w hSw; (try dsimp only at hSw); go_simp; first | done | with_reducible rfl)
    try simp only [List.getElem_toArray, List.getElem_cons_zero, List.getElem_cons_succ, Act.put, List.setIfInBounds_toArray, List.set_cons_zero, List.set_cons_succ]
    refine wpAnyH_take (i := 13) (v := ?_) rfl (by kernel_rfl) (by kernel_rfl) (by kernel_rfl) (fun _ _ _ h => h) (Or.inl ⟨by rfl, ?_⟩) (by assumption) ?_
    rotate_left
    · (intro w hSw; (try dsimp only at hSw); go_simp; first | done | with_reducible rfl)
    try simp only [List.getElem_toArray, List.getElem_cons_zero, List.getElem_cons_succ, Act.put, List.setIfInBounds_toArray, List.set_cons_zero, List.set_cons_succ]
    refine wpAnyH_done (by kernel_rfl) ?_ _
    go_wp2_with fail
    go_ret
    exact ⟨by simp, HW.out.trans (Below.mono (by assumption) HW.out.size)⟩
  · go_enter Try.func25, Try.ntmps25
    go_upto_region 1 with fail
    refine wp_gen (fun W => Below w.heap.size w W ∧ Blk W w.heap.size 35 #[.int .u32 a, .int .i64 l]) ⟨HW0.out, hk0.out⟩ ?_
    rintro W ⟨hW, hk1⟩
    have x1 : ∀ w' o, Below W.heap.size W w' → w'.cell? ⟨w.heap.size, o, none⟩ = (#[.int .u32 a, .int .i64 l] : Array Value)[o]? := fun w' o h => (hk1.below h hk1.lt).cell o
    have HW := Lib.hid hW
    clear hW hk1
    go_region_held3 (fun w' => Below W.heap.size W w') (first | (with_reducible exact below_step (by assumption) hb1') | (repeat' (first | (with_reducible exact Below.refl _ _) | (with_reducible assumption) | (with_reducible exact Below.size (by assumption)) | (with_reducible refine Below.drew ?_))))
      (first
        | (go_at_call 31; (with_reducible refine (Hc.out _).mono ?_); rintro e u1 ⟨rfl, hb1'⟩; have hq : Below W.heap.size W u1 := below_step (by assumption) hb1')
        | (go_at_call 43; (with_reducible refine (Hk.out _).mono ?_); rintro e u2 ⟨rfl, hb2⟩; subst hb2)
        | fail)
    all_goals (go_wp2_with fail)
    all_goals go_ret
    all_goals exact ⟨rfl, HW.out.trans (Below.mono (by assumption) HW.out.size)⟩
end Go.Proofs.Ythiodgnklfbmjaa
