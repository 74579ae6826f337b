/- choose.Best: the closure that tells what goes, and the function itself. -/
import Derived.Test.YtngfabnkgpidjaaChooseD
import Derived.Test.YtngfabnkgpidjaaMapI
namespace Go.Proofs.Ytngfabnkgpidjaa
open Go.RowKit
set_option linter.unusedVariables false

theorem attrsR.first_ok {w : World} {F : Nat → Prop} {cs : List Value} {a : Attrs} (h : attrsR w F cs a) : IntKind.i64.min ≤ a.first ∧ a.first ≤ IntKind.i64.max := by
  obtain ⟨p, c, o, rfl, hp, _⟩ := h
  have h0 : IntKind.i64.min ≤ (0 : Int) ∧ (0 : Int) ≤ IntKind.i64.max := i64_mk (by omega) (by omega)
  unfold Attrs.first
  rcases hq : a.path with _ | ⟨s, r⟩
  · exact h0
  · obtain ⟨A, C, rfl⟩ := hp.val
    obtain ⟨b, off, cs', _, _, ⟨v, rfl, hv⟩, _⟩ := hp.at_ (k := 0) (x := s) (by rw [hq]; rfl)
    dsimp only
    split
    · exact h0
    · rcases hr : s.row with _ | ⟨x, t⟩
      · exact h0
      · obtain ⟨A2, C2, rfl⟩ := hv.val
        obtain ⟨_, _, _, _, _, ⟨_, hx⟩, _⟩ := hv.at_ (k := 0) (x := x) (by rw [hr]; rfl)
        exact hx
theorem attrsR.fits {w : World} {F : Nat → Prop} {cs : List Value} {a : Attrs} (h : attrsR w F cs a) : a.Fits := by
  obtain ⟨p, c, o, rfl, _, _, _, h⟩ := h
  exact h
theorem int_keys : Try.prog.underlying 3 = some (.int .i64) := Try.underlying3

theorem candR.at_ {w : World} {F : Nat → Prop} {c : Cand} {v0 v1 v2 v3 v4 v5 v6 v7 v8 v9 v10 v11 v12 v13 : Value} (h : candR w F [v0, v1, v2, v3, v4, v5, v6, v7, v8, v9, v10, v11, v12, v13] c) : attrsR w F [v3, v4, v5, v6, v7, v8, v9, v10, v11, v12] c.at_ := by
  obtain ⟨ac, he, h1, _⟩ := h
  have hl := attrsR_ok.len h1
  match ac, hl with
  | [a0, a1, a2, a3, a4, a5, a6, a7, a8, a9], _ =>
    simp only [List.cons_append, List.nil_append, List.cons.injEq, and_true] at he
    obtain ⟨_, _, _, rfl, rfl, rfl, rfl, rfl, rfl, rfl, rfl, rfl, rfl, _⟩ := he
    exact h1

def medAt (xs : List Cand) (i : Int) : Int := (candAt xs i).at_.med
def firstAt (xs : List Cand) (i : Int) : Int := (candAt xs i).at_.first
def goneI (xs : List Cand) (f : Int → Option Int) (i : Int) : Bool := decide ((f (firstAt xs i)).getD 0 < medAt xs i)

attribute [local go_sem ↓] Go.wp_at_zero Go.wp_at_succ
set_option maxHeartbeats 1000000 in
theorem best_closure1 (w : World) (F : Nat → Prop) (A : Option Addr) (n c : Nat) (xs : List Cand) (hl : listR 14 candR w F [.slice A n c] xs) (hF : InF F w) (ga gm M N : Nat) (f : Int → Option Int) (hga : w.cell? ⟨ga, 0, none⟩ = some (.slice A n c))
    (hgm : w.cell? ⟨gm, 0, none⟩ = some (.map (some M))) (hM : IMap Try.prog 3 3 w M N f) (i : Nat) (hi : i < n) :
    Calls Try.prog 22 #[.int .i64 i, .pointer (some ⟨ga, 0, none⟩), .pointer (some ⟨gm, 0, none⟩)] w fun e w' => e = .returned (.bool (goneI xs f i)) ∧ Below w.heap.size w w' := by
  have Hn := Lib.hid hl.len.1
  obtain ⟨x, hx⟩ : ∃ x, xs[i]? = some x := ⟨_, List.getElem?_eq_getElem (by rw [← Hn.out]; exact hi)⟩
  obtain ⟨b, off, cx, rfl, hFb, hRx, hrx⟩ := hl.at_ hx
  have hbl := hF b hFb
  obtain ⟨A1, n1, c1, A2, n2, c2, A3, n3, c3, rfl⟩ := hRx.lit
  obtain ⟨l1, l2⟩ := cells_now hrx
  obtain ⟨l3, l4⟩ := cells_now (rangeAt_drop hrx 3)
  simp only [List.drop_succ_cons, List.drop_zero] at l3 l4
  have hgml := World.block_lt_of_cell? w _ hgm
  have e1 : goneI xs f i = decide ((f x.at_.first).getD 0 < x.at_.med) := by rw [goneI, firstAt, medAt, candAt_get hx]
  rw [e1]
  have hA := hRx.at_
  have HF1 := Lib.hid hA.first_ok
  have HA := Lib.hid hA
  have HM := Lib.hid hM
  clear hRx hrx hx hl e1 Hn hA hM
  have hi0 : (0 : Int) ≤ (i : Int) := by omega
  have hi1 : (i : Int) < (n : Int) := by omega
  go_enter Try.func22, Try.ntmps22
  go_upto_region 2 with fail
  refine wp_gen (fun W => Below w.heap.size w W ∧ Blk W w.heap.size 31 #[.int .i64 x.at_.has, .int .i64 x.at_.origin, .slice A1 n1 c1, .int .u32 x.at_.nextHop, .int .i64 x.at_.med, .int .i64 x.at_.loc, .int .i64 x.at_.aggrAs, .int .u32 x.at_.aggrId, .slice A2 n2 c2, .slice A3 n3 c3]) ?_ ?_
  · exact ⟨(Below.refl _ _).alloc (Nat.le_refl _) _, Blk.new _ _ _⟩
  rintro W ⟨hW, hB⟩
  have k1 := hB.cells
  have k2 : ∀ w', Below W.heap.size W w' → w'.cell? ⟨gm, 0, none⟩ = some (.map (some M)) := fun w' h => ((below_step hW h).cell (p := ⟨gm, 0, none⟩) hgml).trans hgm
  have k3 : ∀ w', Below W.heap.size W w' → (Instr.lookup 55 (.map (some M)) (.int .i64 x.at_.first) false).run Try.prog w' = .ok (.int .i64 ((f x.at_.first).getD 0)) w' := fun w' h =>
    (HM.out.below (below_step hW h)).look int_keys int_keys Try.underlying55 zero_int HF1.out
  have HA' := Lib.hid (fun w' (h : Below W.heap.size W w') => (⟨attrsR_ok.below HA.out (below_step hW h) hF, hF.below (below_step hW h)⟩ : attrsR w' F _ x.at_ ∧ InF F w'))
  clear l1 l2 l3 l4 hga hgm
  go_region_held3 (fun w' => Below W.heap.size W w') (first | exact below_step (by assumption) hb1' | (repeat' (first | exact Below.refl _ _ | assumption | exact Below.size (by assumption) | refine Below.drew ?_ | refine Below.alloc ?_ ?_ _ | refine Below.setCell ?_ ?_ _ | (simp; done) | (simp; omega))))
    (first
      | (go_at_call 20; (with_reducible refine (attr_First _ F _ x.at_ (HA'.out _ ?_).1 (HA'.out _ ?_).2).mono ?_); assumption; assumption; rintro e w1 ⟨rfl, hb1'⟩))
  go_wp2_with fail
  go_ret
  exact ⟨rfl, below_step hW (by assumption)⟩
end Go.Proofs.Ytngfabnkgpidjaa
