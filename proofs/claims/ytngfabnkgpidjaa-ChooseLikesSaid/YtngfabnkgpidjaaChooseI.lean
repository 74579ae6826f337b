/- The law's example: head. -/
import Derived.Test.YtngfabnkgpidjaaChooseH
namespace Go.Proofs.Ytngfabnkgpidjaa
open Go.RowKit
set_option linter.unusedVariables false

theorem listR_lit {α : Type} {size : Nat} {R : Rep α} (ok : R.Ok size) {w : World} {F : Nat → Prop} {cells : List Value} {xs : List α} (h : Groups R w F cells xs) {g n : Nat} (hn : xs.length = n) (hm : n ≤ 1048576) (hr : w.rangeAt g 0 cells) :
    listR size R w (fun b => F b ∨ b = g) [.slice (some ⟨g, 0, none⟩) n n] xs := by
  subst hn
  refine ⟨_, _, rfl, Nat.le_refl _, by simp only [maxLen]; omega, fun k y hk => ?_⟩
  obtain ⟨cs, hR, hc⟩ := h.at_ ok hk
  exact ⟨g, 0, cs, rfl, .inr rfl, ok.keep hR (fun _ _ => rfl) (fun _ h => .inl h), fun j u hu => by
    have := hr (k * size + j) u (hc j u hu)
    simpa [Nat.add_assoc] using this⟩
theorem Grew.alloc {w w1 : World} {F F1 : Nat → Prop} (h : Grew w F w1 F1) (o : Obj) : Grew w F (w1.alloc o) F1 :=
  ⟨h.below.alloc h.below.size _, h.sub, h.fresh, h.lt.mono (by simp)⟩
/-- a new block, frozen -/
theorem Grew.freeze {w w1 : World} {F F1 : Nat → Prop} (h : Grew w F w1 F1) {g : Nat} (hg : w.heap.size ≤ g) (hl : g < w1.heap.size) : Grew w F w1 (fun b => F1 b ∨ b = g) :=
  ⟨h.below, fun b hb => .inl (h.sub b hb), fun b hb => by
    rcases hb with hb | rfl
    · exact h.fresh b hb
    · exact .inr hg, fun b hb => by
    rcases hb with hb | rfl
    · exact h.lt b hb
    · exact hl⟩
def NoF : Nat → Prop := fun _ => False
theorem noF_in (w : World) : InF NoF w := fun _ h => h.elim

theorem routeC_good (h p i : Nat) (hh : h ≤ 1048576) : (routeC h p i).Good := by
  refine ⟨⟨?_, ?_⟩, ?_⟩
  · simp [routeC]
  · intro s hs
    simp [routeC] at hs
    subst hs
    simpa [hundreds] using hh
  · simp [routeC]
set_option maxHeartbeats 2000000 in
theorem law_head (w : World) : Calls Try.prog 8 #[] w fun e w' => e = .returned (.bool true) ∧ Below w.heap.size w w' := by
  go_enter Try.func8, Try.ntmps8
  go_wp2_with fail
  refine (law_route w NoF (noF_in w) 2 1 2 (by omega) (by omega) (by omega)).mono ?_
  rintro e w1 ⟨cs1, F1, rfl, hR1, hg1⟩
  obtain ⟨A1, n1, c1, A2, n2, c2, A3, n3, c3, rfl⟩ := hR1.lit
  go_wp2_with fail
  refine (law_route w1 F1 hg1.lt 1 2 9 (by omega) (by omega) (by omega)).mono ?_
  rintro e w2 ⟨cs2, F2, rfl, hR2, hg2⟩
  obtain ⟨B1, m1, d1, B2, m2, d2, B3, m3, d3, rfl⟩ := hR2.lit
  go_wp2_with fail
  refine (law_route w2 F2 hg2.lt 1 3 4 (by omega) (by omega) (by omega)).mono ?_
  rintro e w3 ⟨cs3, F3, rfl, hR3, hg3⟩
  obtain ⟨C1, k1, e1, C2, k2, e2, C3, k3, e3, rfl⟩ := hR3.lit
  have hG1 := candR_ok.grew (candR_ok.grew hR1 hg2 hg1.lt) hg3 hg2.lt
  have hG2 := candR_ok.grew hR2 hg3 hg2.lt
  have hgs : Groups candR w3 F3 _ [routeC 2 1 2, routeC 1 2 9, routeC 1 3 4] := ⟨_, _, rfl, hG1, _, _, rfl, hG2, _, _, rfl, hR3, rfl⟩
  have Hgs := Lib.hid hgs
  have hgr := (hg1.trans hg2).trans hg3
  have Hgr := Lib.hid hgr
  clear hG1 hG2 hgs hR1 hR2 hR3 hg1 hg2 hg3 hgr
  go_wp2_with fail
  have hgA := Hgr.out.alloc (.cells #[.int .i64 (routeC 2 1 2).peer] 35)
  refine (choose_Best1 _ (fun b => F3 b ∨ b = w3.heap.size) _ 0 3 3 [routeC 2 1 2, routeC 1 2 9, routeC 1 3 4] (listR_lit candR_ok (Hgs.out.keep candR_ok (fun b hb => Below.heap_alloc _ _ _ (Hgr.out.lt b hb)) fun _ h => h) rfl (by omega) (rangeAt_new _ _ _)) ?_ (.inr rfl) (by omega) (by omega) ?_).mono ?_
  · exact ((Hgr.out.alloc _).freeze Hgr.out.below.size (by simp)).lt
  · intro x hx
    simp at hx
    rcases hx with rfl | rfl | rfl <;> exact routeC_good _ _ _ (by omega)
  rintro e w4 ⟨rfl, hb4⟩
  have hb : bestI [routeC 2 1 2, routeC 1 2 9, routeC 1 3 4] = 2 := by decide +kernel
  rw [hb]
  have hB4 := below_step (Hgr.out.alloc _).below hb4
  clear hb4 hgA hb
  go_wp2_with fail
  refine (choose_Best0 _ 0 none).mono ?_
  rintro e w5 ⟨rfl, hb5⟩
  have hB5 := below_step hB4 hb5
  go_wp2_with fail
  go_ret
  exact ⟨rfl, hB5⟩
end Go.Proofs.Ytngfabnkgpidjaa
