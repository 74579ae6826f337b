/- The law's plain, plains: the routes as the reference looks at them. -/
import Derived.Test.YtngfabnkgpidjaaChooseF
namespace Go.Proofs.Ytngfabnkgpidjaa
open Go.RowKit
set_option linter.unusedVariables false

structure RRoute where
  loc : Int
  hops : Int
  origin : Int
  first : Int
  med : Int
  id : Int
  peer : Int
def RRoute.row (r : RRoute) : List Value := [.int .i64 r.loc, .int .i64 r.hops, .int .i64 r.origin, .int .i64 r.first, .int .i64 r.med, .int .u32 r.id, .int .i64 r.peer]
def plainI (c : Cand) : RRoute := ⟨c.at_.likes, c.at_.hops, c.at_.origin, c.at_.first, c.at_.med, c.id, c.peer⟩

theorem attr_IsP (w : World) (F : Nat → Prop) (cs : List Value) (a : Attrs) (h : attrsR w F cs a) (t : Int) (h0 : 0 ≤ a.has) (h1 : 1 ≤ t) (h2 : t ≤ 8) (q : Bool) (hq : a.is t.toNat = q) :
    Calls Try.prog 31 #[.agg cs.toArray, .int .i64 t] w fun e w' => e = .returned (.bool q) ∧ Below w.heap.size w w' := by
  subst hq
  exact attr_IsT w F cs a h t h0 h1 h2
theorem below_set7 {n g : Nat} {a w : World} {v0 v1 v2 v3 v4 v5 v6 : Value} (h : Below n a w) (hg : n ≤ g) : Below n a (((((((w.setCell ⟨g, 0, none⟩ v0).setCell ⟨g, 1, none⟩ v1).setCell ⟨g, 2, none⟩ v2).setCell ⟨g, 3, none⟩ v3).setCell ⟨g, 4, none⟩ v4).setCell ⟨g, 5, none⟩ v5).setCell ⟨g, 6, none⟩ v6) :=
  ((((((h.setCell hg _).setCell hg _).setCell hg _).setCell hg _).setCell hg _).setCell hg _).setCell hg _
theorem Blk.set7 {w : World} {g : Nat} {t : TypeId} {z0 z1 z2 z3 z4 z5 z6 : Value} (h : Blk w g t #[z0, z1, z2, z3, z4, z5, z6]) (v0 v1 v2 v3 v4 v5 v6 : Value) :
    Blk (((((((w.setCell ⟨g, 0, none⟩ v0).setCell ⟨g, 1, none⟩ v1).setCell ⟨g, 2, none⟩ v2).setCell ⟨g, 3, none⟩ v3).setCell ⟨g, 4, none⟩ v4).setCell ⟨g, 5, none⟩ v5).setCell ⟨g, 6, none⟩ v6) g t #[v0, v1, v2, v3, v4, v5, v6] := by
  have h0 := Blk.set_ (cs := [z0, z1, z2, z3, z4, z5, z6]) h 0 v0
  have h1 := Blk.set_ (cs := [v0, z1, z2, z3, z4, z5, z6]) h0 1 v1
  have h2 := Blk.set_ (cs := [v0, v1, z2, z3, z4, z5, z6]) h1 2 v2
  have h3 := Blk.set_ (cs := [v0, v1, v2, z3, z4, z5, z6]) h2 3 v3
  have h4 := Blk.set_ (cs := [v0, v1, v2, v3, z4, z5, z6]) h3 4 v4
  have h5 := Blk.set_ (cs := [v0, v1, v2, v3, v4, z5, z6]) h4 5 v5
  exact Blk.set_ (cs := [v0, v1, v2, v3, v4, v5, z6]) h5 6 v6
theorem zero_blkd {w w1 : World} {t : TypeId} {cs : Array Value} (h : Below (w.alloc (.cells cs t)).drew.heap.size (w.alloc (.cells cs t)).drew w1) : Blk w1 w.heap.size t cs :=
  (Blk.new w t cs).drew.below h (by simp)
theorem zero_blk {w w1 : World} {t : TypeId} {cs : Array Value} (h : Below (w.alloc (.cells cs t)).heap.size (w.alloc (.cells cs t)) w1) : Blk w1 w.heap.size t cs :=
  (Blk.new w t cs).below h (by simp)

attribute [local go_sem ↓] Go.wp_at_zero Go.wp_at_succ
set_option maxHeartbeats 40000000 in
theorem law_plain (w : World) (F : Nat → Prop) (cs : List Value) (x : Cand) (h : candR w F cs x) (hF : InF F w) (hs : x.at_.Small) (h0 : 0 ≤ x.at_.has) :
    Calls Try.prog 15 #[.agg cs.toArray] w fun e w' => e = .returned (.agg #[.int .i64 x.at_.likes, .int .i64 x.at_.hops, .int .i64 x.at_.origin, .int .i64 x.at_.first, .int .i64 x.at_.med, .int .u32 x.id, .int .i64 x.peer]) ∧ Below w.heap.size w w' := by
  obtain ⟨ac, rfl, hA, hfx⟩ := h
  have HA := Lib.hid (fun w' (h : Below w.heap.size w w') => (⟨attrsR_ok.below hA h hF, hF.below h⟩ : attrsR w' F _ x.at_ ∧ InF F w'))
  obtain ⟨A1, n1, c1, A2, n2, c2, A3, n3, c3, rfl⟩ := hA.lit
  clear hA hfx
  go_enter Try.func15, Try.ntmps15
  go_upto_region 2 with fail
  refine wp_gen (fun W => Below w.heap.size w W ∧ Blk W w.heap.size 35 #[.int .i64 x.peer, .int .u32 x.addr, .int .i64 x.len, .int .i64 x.at_.has, .int .i64 x.at_.origin, .slice A1 n1 c1, .int .u32 x.at_.nextHop, .int .i64 x.at_.med, .int .i64 x.at_.loc, .int .i64 x.at_.aggrAs, .int .u32 x.at_.aggrId, .slice A2 n2 c2, .slice A3 n3 c3, .int .u32 x.id] ∧ Blk W (w.heap.size + 2) 31 #[.int .i64 x.at_.has, .int .i64 x.at_.origin, .slice A1 n1 c1, .int .u32 x.at_.nextHop, .int .i64 x.at_.med, .int .i64 x.at_.loc, .int .i64 x.at_.aggrAs, .int .u32 x.at_.aggrId, .slice A2 n2 c2, .slice A3 n3 c3] ∧
    Blk W (w.heap.size + 1) 48 #[.int .i64 0, .int .i64 0, .int .i64 0, .int .i64 0, .int .i64 0, .int .u32 0, .int .i64 0]) ?_ ?_
  · refine ⟨(((Below.refl _ _).alloc (Nat.le_refl _) _).alloc (by simp) _).alloc (by simp; omega) _, ((Blk.new _ _ _).alloc _).alloc _, ?_, (Blk.new2 _ _ _ _).alloc _⟩
    have := Blk.new2 (w.alloc (.cells #[.int .i64 x.peer, .int .u32 x.addr, .int .i64 x.len, .int .i64 x.at_.has, .int .i64 x.at_.origin, .slice A1 n1 c1, .int .u32 x.at_.nextHop, .int .i64 x.at_.med, .int .i64 x.at_.loc, .int .i64 x.at_.aggrAs, .int .u32 x.at_.aggrId, .slice A2 n2 c2, .slice A3 n3 c3, .int .u32 x.id] 35)) (.cells #[.int .i64 0, .int .i64 0, .int .i64 0, .int .i64 0, .int .i64 0, .int .u32 0, .int .i64 0] 48) 31 #[.int .i64 x.at_.has, .int .i64 x.at_.origin, .slice A1 n1 c1, .int .u32 x.at_.nextHop, .int .i64 x.at_.med, .int .i64 x.at_.loc, .int .i64 x.at_.aggrAs, .int .u32 x.at_.aggrId, .slice A2 n2 c2, .slice A3 n3 c3]
    rwa [show (w.alloc (.cells #[.int .i64 x.peer, .int .u32 x.addr, .int .i64 x.len, .int .i64 x.at_.has, .int .i64 x.at_.origin, .slice A1 n1 c1, .int .u32 x.at_.nextHop, .int .i64 x.at_.med, .int .i64 x.at_.loc, .int .i64 x.at_.aggrAs, .int .u32 x.at_.aggrId, .slice A2 n2 c2, .slice A3 n3 c3, .int .u32 x.id] 35)).heap.size + 1 = w.heap.size + 2 by simp] at this
  rintro W ⟨hW, hk1, hk2, hk3⟩
  have l1 := hk1.cells
  have l2 := hk2.cells
  have HX := Lib.hid (fun w' (h : Below W.heap.size W w') => HA.out w' (below_step hW h))
  go_cut [4] (fun s4 wx => ∃ g, s4 = .pointer (some ⟨g, 0, none⟩) ∧ Blk wx g 48 #[.int .i64 100, .int .i64 x.at_.hops, .int .i64 x.at_.origin, .int .i64 x.at_.first, .int .i64 x.at_.med, .int .u32 x.id, .int .i64 x.peer] ∧ W.heap.size ≤ g ∧ Below W.heap.size W wx)
  case first =>
    go_region_held3 (fun w' => Below W.heap.size W w') (first | ((with_reducible refine below_set7 ?_ ?_); (with_reducible assumption); (first | (with_reducible exact Nat.le_refl _) | (with_reducible assumption))) | (with_reducible exact below_step (by assumption) hb1') | (with_reducible exact below_step (by assumption) hb2') | (repeat' (first | (with_reducible exact Below.refl _ _) | (with_reducible assumption) | (with_reducible exact Below.size (by assumption)) | (with_reducible refine Below.drew ?_) | (with_reducible refine Below.alloc ?_ ?_ _) | (with_reducible refine Below.setCell ?_ ?_ _) | (simp; done) | (simp; omega))))
      (first
        | (go_at_call 30; (with_reducible refine (attr_Hops _ F _ x.at_ (HX.out _ ?_).1 (HX.out _ ?_).2 hs).mono ?_); assumption; assumption; rintro e w1 ⟨rfl, hb1'⟩; have hk4 := zero_blkd hb1'; have HK4 := Lib.hid hk4; have hz1 := hk4.cell; have hf1 := hk4.free; clear hk4)
        | (go_at_call 30; (with_reducible refine (attr_Hops _ F _ x.at_ (HX.out _ ?_).1 (HX.out _ ?_).2 hs).mono ?_); assumption; assumption; rintro e w1 ⟨rfl, hb1'⟩; have hs1 : W.heap.size ≤ w1.heap.size := hb1'.size)
        | (go_at_call 20; (with_reducible refine (attr_First _ F _ x.at_ (HX.out _ ?_).1 (HX.out _ ?_).2).mono ?_); assumption; assumption; rintro e w2 ⟨rfl, hb2'⟩; have hk5 := HK4.out.below hb2' HK4.out.lt; have hz2 := hk5.cell; have hf2 := hk5.free)
        | (go_at_call 20; (with_reducible refine (attr_First _ F _ x.at_ (HX.out _ ?_).1 (HX.out _ ?_).2).mono ?_); assumption; assumption; rintro e w2 ⟨rfl, hb2'⟩; have hk5 := zero_blk hb2'; have hz2 := hk5.cell; have hf2 := hk5.free)
        | (go_at_call 20; (with_reducible refine (attr_First _ F _ x.at_ (HX.out _ ?_).1 (HX.out _ ?_).2).mono ?_); assumption; assumption; rintro e w2 ⟨rfl, hb2'⟩; have hq : Below W.heap.size W w2 := below_step (by assumption) hb2'))
    all_goals (go_wp2_with fail)
    all_goals go_meet
    · exact ⟨_, rfl, Blk.new _ _ _, hq.size, hq.alloc hq.size _⟩
    · exact ⟨_, rfl, Blk.set7 hk5 _ _ _ _ _ _ _, hs1, by assumption⟩
    · exact ⟨_, rfl, Blk.set7 hk5 _ _ _ _ _ _ _, Nat.le_refl _, by assumption⟩
  case rest =>
    obtain ⟨g, rfl, hk4, hg1, hB⟩ := hcut
    have hk5 := hk3.below hB hk3.lt
    have hgn : w.heap.size + 1 ≠ g := by have := hk3.lt; omega
    cases hq : x.at_.is 5
    · have HQ := Lib.hid (show x.at_.is (Int.toNat 5) = false from hq)
      have HQ2 := Lib.hid hq
      clear hq
      go_wp2_with (first
        | (go_at_call 31; (with_reducible refine (attr_IsP _ F _ x.at_ (HX.out _ hB).1 5 h0 ?_ ?_ _ HQ.out).mono ?_); omega; omega; rintro e w3 ⟨rfl, hb3⟩; have k4 := hk4.below hb3 hk4.lt; have k5 := hk5.below hb3 hk5.lt; have c4 := k4.cell; have hB3 := below_step hB hb3)
        | (refine wpList_store_blk rfl 48 (.tmp 2) (.tmp 27) rfl (w.heap.size + 1) 48 _ _ rfl rfl k5 ?hsz ?hi ?h1 ?_))
      case hsz => rfl
      case hi => rfl
      case h1 => intro u hu; simp at hu; rcases hu with rfl | rfl | rfl | rfl | rfl | rfl | rfl <;> rfl
      intro w9 hblk9 hg9
      go_wp2_with fail
      refine bodyPost_ret (results_cell_row rfl _ _ (w.heap.size + 1) 48 _ (0, 0) _ rfl hblk9.heap Try.underlying48 rfl rfl) rfl ?_
      exact ⟨by simp [Attrs.likes, HQ2.out], below_grown (below_step hW hB3) hg9 (by omega)⟩
    · have HQ := Lib.hid (show x.at_.is (Int.toNat 5) = true from hq)
      have HQ2 := Lib.hid hq
      clear hq
      go_wp2_with (first
        | (go_at_call 31; (with_reducible refine (attr_IsP _ F _ x.at_ (HX.out _ hB).1 5 h0 ?_ ?_ _ HQ.out).mono ?_); omega; omega; rintro e w3 ⟨rfl, hb3⟩; have k4 := hk4.below hb3 hk4.lt; have k5 := hk5.below hb3 hk5.lt; have c4 := k4.cell; have f4 := k4.free; have hB3 := below_step hB hb3; have k6 := k5.grown (grownBy_setCell w3 g 0 (.int .i64 x.at_.loc)) hgn; have c6 := (Blk.set_ (cs := [_, _, _, _, _, _, _]) k4 0 (.int .i64 x.at_.loc)).cell)
        | (refine wpList_store_blk rfl 48 (.tmp 2) (.tmp 27) rfl (w.heap.size + 1) 48 _ _ rfl rfl k6 ?hsz ?hi ?h1 ?_))
      case hsz => rfl
      case hi => rfl
      case h1 => intro u hu; simp at hu; rcases hu with rfl | rfl | rfl | rfl | rfl | rfl | rfl <;> rfl
      intro w9 hblk9 hg9
      go_wp2_with fail
      refine bodyPost_ret (results_cell_row rfl _ _ (w.heap.size + 1) 48 _ (0, 0) _ rfl hblk9.heap Try.underlying48 rfl rfl) rfl ?_
      exact ⟨by simp [Attrs.likes, HQ2.out], below_grown (below_step hW (hB3.setCell hg1 _)) hg9 (by omega)⟩
end Go.Proofs.Ytngfabnkgpidjaa
