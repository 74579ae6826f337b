/- The routes that are chosen from as data; how two of them are compared. -/
import Derived.Test.YtngfabnkgpidjaaAttr
import Derived.Test.YtngfabnkgpidjaaCmp
import Derived.Deep.RegionHeld3
import Derived.Deep.DeepCutAuto
import Derived.Deep.DrawnRows
namespace Go.Proofs.Ytngfabnkgpidjaa
open Go.RowKit

structure Cand where
  peer : Int
  addr : Int
  len : Int
  at_ : Attrs
  id : Int
structure Cand.Fits (c : Cand) : Prop where
  peer : -9223372036854775808 ≤ c.peer ∧ c.peer ≤ 9223372036854775807
  addr : 0 ≤ c.addr ∧ c.addr ≤ 4294967295
  len : -9223372036854775808 ≤ c.len ∧ c.len ≤ 9223372036854775807
  id : 0 ≤ c.id ∧ c.id ≤ 4294967295
def candR : Rep Cand := fun w F cs c => ∃ ac, cs = [.int .i64 c.peer, .int .u32 c.addr, .int .i64 c.len] ++ ac ++ [.int .u32 c.id] ∧ attrsR w F ac c.at_ ∧ c.Fits
theorem candR_ok : candR.Ok 14 := by
  refine ⟨?_, ?_, ?_⟩
  · rintro w F cs x ⟨ac, rfl, h, _⟩
    simp [attrsR_ok.len h]
  · rintro w F cs x ⟨ac, rfl, h, _⟩ u hu
    simp at hu
    rcases hu with rfl | rfl | rfl | hu | rfl <;> first | rfl | exact attrsR_ok.one h u hu
  · rintro w w' F F' cs x ⟨ac, rfl, h, hb⟩ hk hs
    exact ⟨ac, rfl, attrsR_ok.keep h hk hs, hb⟩

theorem attrsR.fits1 {w : World} {F : Nat → Prop} {cs : List Value} {a : Attrs} (h : attrsR w F cs a) : a.Fits := by
  obtain ⟨p, c, o, rfl, _, _, _, h⟩ := h
  exact h
theorem attrsR.lens {w : World} {F : Nat → Prop} {a : Attrs} {v0 v1 v3 v4 v5 v6 v7 : Value} {A1 A2 A3 : Option Addr} {n1 n2 n3 c1 c2 c3 : Nat} (h : attrsR w F [v0, v1, .slice A1 n1 c1, v3, v4, v5, v6, v7, .slice A2 n2 c2, .slice A3 n3 c3] a) :
    listR 2 segR w F [.slice A1 n1 c1] a.path ∧ listR 1 (intR .i64) w F [.slice A2 n2 c2] a.comms ∧ listR 2 otherR w F [.slice A3 n3 c3] a.others := by
  obtain ⟨p, c, o, he, h1, h2, h3, _⟩ := h
  simp only [List.cons.injEq, and_true] at he
  obtain ⟨_, _, rfl, _, _, _, _, _, rfl, rfl⟩ := he
  exact ⟨h1, h2, h3⟩
theorem attrsR.lit {w : World} {F : Nat → Prop} {cs : List Value} {a : Attrs} (h : attrsR w F cs a) : ∃ A1 n1 c1 A2 n2 c2 A3 n3 c3,
    cs = [.int .i64 a.has, .int .i64 a.origin, .slice A1 n1 c1, .int .u32 a.nextHop, .int .i64 a.med, .int .i64 a.loc, .int .i64 a.aggrAs, .int .u32 a.aggrId, .slice A2 n2 c2, .slice A3 n3 c3] := by
  obtain ⟨p1, c1, o1, rfl, hp1, hc1, ho1, hx1⟩ := h
  obtain ⟨A1, n1, rfl⟩ := hp1.val
  obtain ⟨A2, n2, rfl⟩ := hc1.val
  obtain ⟨A3, n3, rfl⟩ := ho1.val
  exact ⟨_, _, _, _, _, _, _, _, _, rfl⟩
theorem candR.lit {w : World} {F : Nat → Prop} {cs : List Value} {c : Cand} (h : candR w F cs c) : ∃ A1 n1 c1 A2 n2 c2 A3 n3 c3,
    cs = [.int .i64 c.peer, .int .u32 c.addr, .int .i64 c.len, .int .i64 c.at_.has, .int .i64 c.at_.origin, .slice A1 n1 c1, .int .u32 c.at_.nextHop, .int .i64 c.at_.med, .int .i64 c.at_.loc, .int .i64 c.at_.aggrAs, .int .u32 c.at_.aggrId, .slice A2 n2 c2, .slice A3 n3 c3, .int .u32 c.id] := by
  obtain ⟨ac, rfl, h, _⟩ := h
  obtain ⟨A1, n1, c1, A2, n2, c2, A3, n3, c3, rfl⟩ := h.lit
  exact ⟨A1, n1, c1, A2, n2, c2, A3, n3, c3, rfl⟩

def Attrs.likes (a : Attrs) : Int := if a.is 5 then a.loc else 100
def beforeI (a b : Cand) : Int := orL [cmpI b.at_.likes a.at_.likes, cmpI a.at_.hops b.at_.hops, cmpI a.at_.origin b.at_.origin]
def lastI (a b : Cand) : Int := orL [cmpI a.id b.id, cmpI a.peer b.peer]

set_option maxHeartbeats 400000 in
theorem choose_local (w : World) (F : Nat → Prop) (cs : List Value) (a : Attrs) (h : attrsR w F cs a) (hF : InF F w) (h0 : 0 ≤ a.has) :
    Calls Try.prog 33 #[.agg cs.toArray] w fun e w' => e = .returned (.int .i64 a.likes) ∧ Below w.heap.size w w' := by
  have hR := h
  obtain ⟨p, c, o, rfl, hp, hc, ho, hb⟩ := h
  obtain ⟨A1, n1, rfl⟩ := hp.val
  obtain ⟨A2, n2, rfl⟩ := hc.val
  obtain ⟨A3, n3, rfl⟩ := ho.val
  clear hp hc ho hb
  generalize a.path.length = m1 at *
  generalize a.comms.length = m2 at *
  generalize a.others.length = m3 at *
  go_enter Try.func33, Try.ntmps33
  go_wp2_with fail
  refine (attr_IsK _ F _ a (attrsR_ok.below hR ((Below.refl _ _).alloc (Nat.le_refl _) _) hF) 5 5 rfl h0 (by omega) (by omega)).mono ?_
  rintro e w1 ⟨rfl, hB⟩
  have hc := (bcell hB).1
  have hB2 := ((Below.refl w.heap.size w).alloc (Nat.le_refl _) _).trans (hB.mono (by simp))
  clear hR hB
  cases hi : a.is 5
  all_goals
    have Hi := Lib.hid hi
    clear hi
    go_wp2
    go_ret
    exact ⟨ret_int (by simp [Attrs.likes, Hi.out]), hB2⟩

/-- two variables of one type that were just made, in whatever order -/
structure TwoBlocks (w wx : World) (t : TypeId) (s5 s6 : Value) (xa xb : Array Value) : Prop where
  ex : ∃ g1 g2, s5 = .pointer (some ⟨g1, 0, none⟩) ∧ s6 = .pointer (some ⟨g2, 0, none⟩) ∧ Blk wx g1 t xa ∧ Blk wx g2 t xb
  below : Below w.heap.size w wx
theorem TwoBlocks.ab {w W : World} {t : TypeId} {xa xb : Array Value} (hb : Below w.heap.size w W) : TwoBlocks w ((W.alloc (.cells xa t)).alloc (.cells xb t)).drew t (.pointer (some ⟨W.heap.size, 0, none⟩)) (.pointer (some ⟨W.heap.size + 1, 0, none⟩)) xa xb :=
  ⟨⟨_, _, rfl, rfl, ((Blk.new _ _ _).alloc _).drew, (Blk.new2 _ _ _ _).drew⟩, ((hb.alloc hb.size _).alloc (by simp; have := hb.size; omega) _).drew⟩
theorem TwoBlocks.ba {w W : World} {t : TypeId} {xa xb : Array Value} (hb : Below w.heap.size w W) : TwoBlocks w ((W.alloc (.cells xb t)).alloc (.cells xa t)).drew t (.pointer (some ⟨W.heap.size + 1, 0, none⟩)) (.pointer (some ⟨W.heap.size, 0, none⟩)) xa xb :=
  ⟨⟨_, _, rfl, rfl, (Blk.new2 _ _ _ _).drew, ((Blk.new _ _ _).alloc _).drew⟩, ((hb.alloc hb.size _).alloc (by simp; have := hb.size; omega) _).drew⟩

attribute [local go_sem ↓] Go.wp_at_zero Go.wp_at_succ
set_option maxHeartbeats 1000000 in
theorem choose_before (w : World) (F : Nat → Prop) (ca cb : List Value) (a b : Cand) (ha : candR w F ca a) (hb : candR w F cb b) (hF : InF F w) (hs : a.at_.Small) (ht : b.at_.Small) (ha0 : 0 ≤ a.at_.has) (hb0 : 0 ≤ b.at_.has) :
    Calls Try.prog 19 #[.agg ca.toArray, .agg cb.toArray] w fun e w' => e = .returned (.int .i64 (beforeI a b)) ∧ Below w.heap.size w w' := by
  obtain ⟨ac, rfl, ha1, hfa⟩ := ha
  obtain ⟨bc, rfl, hb1, hfb⟩ := hb
  have hA := ha1
  have hB := hb1
  obtain ⟨p1, c1, o1, rfl, hp1, hc1, ho1, hx1⟩ := ha1
  obtain ⟨p2, c2, o2, rfl, hp2, hc2, ho2, hx2⟩ := hb1
  obtain ⟨A1, n1, rfl⟩ := hp1.val
  obtain ⟨A2, n2, rfl⟩ := hc1.val
  obtain ⟨A3, n3, rfl⟩ := ho1.val
  obtain ⟨B1, k1, rfl⟩ := hp2.val
  obtain ⟨B2, k2, rfl⟩ := hc2.val
  obtain ⟨B3, k3, rfl⟩ := ho2.val
  clear hp1 hc1 ho1 hx1 hp2 hc2 ho2 hx2 hfa hfb
  generalize a.at_.path.length = m1 at *
  generalize a.at_.comms.length = m2 at *
  generalize a.at_.others.length = m3 at *
  generalize b.at_.path.length = l1 at *
  generalize b.at_.comms.length = l2 at *
  generalize b.at_.others.length = l3 at *
  go_enter Try.func19, Try.ntmps19
  go_upto_region 1 with fail
  refine wp_gen (fun W => Below w.heap.size w W ∧ W.heap.size = w.heap.size + 2 ∧
    (∀ o, W.cell? ⟨w.heap.size, o, none⟩ = (#[.int .i64 a.peer, .int .u32 a.addr, .int .i64 a.len, .int .i64 a.at_.has, .int .i64 a.at_.origin, .slice A1 m1 n1, .int .u32 a.at_.nextHop, .int .i64 a.at_.med, .int .i64 a.at_.loc, .int .i64 a.at_.aggrAs, .int .u32 a.at_.aggrId, .slice A2 m2 n2, .slice A3 m3 n3, .int .u32 a.id] : Array Value)[o]?) ∧
    (∀ o, W.cell? ⟨w.heap.size + 1, o, none⟩ = (#[.int .i64 b.peer, .int .u32 b.addr, .int .i64 b.len, .int .i64 b.at_.has, .int .i64 b.at_.origin, .slice B1 l1 k1, .int .u32 b.at_.nextHop, .int .i64 b.at_.med, .int .i64 b.at_.loc, .int .i64 b.at_.aggrAs, .int .u32 b.at_.aggrId, .slice B2 l2 k2, .slice B3 l3 k3, .int .u32 b.id] : Array Value)[o]?)) ?_ ?_
  · exact ⟨((Below.refl _ _).alloc (Nat.le_refl _) _).alloc (by simp) _, by simp, ((Blk.new _ _ _).alloc _).cell, (Blk.new2 _ _ _ _).cell⟩
  rintro W ⟨hW, hWs, hg1, hg2⟩
  go_cut [5, 6] (fun s5 s6 wx => TwoBlocks w wx 31 s5 s6
    #[.int .i64 a.at_.has, .int .i64 a.at_.origin, .slice A1 m1 n1, .int .u32 a.at_.nextHop, .int .i64 a.at_.med, .int .i64 a.at_.loc, .int .i64 a.at_.aggrAs, .int .u32 a.at_.aggrId, .slice A2 m2 n2, .slice A3 m3 n3]
    #[.int .i64 b.at_.has, .int .i64 b.at_.origin, .slice B1 l1 k1, .int .u32 b.at_.nextHop, .int .i64 b.at_.med, .int .i64 b.at_.loc, .int .i64 b.at_.aggrAs, .int .u32 b.at_.aggrId, .slice B2 l2 k2, .slice B3 l3 k3])
  case first =>
    have hWx := Lib.hid hWs
    have hc1 : ∀ w' o, Below W.heap.size W w' → w'.cell? ⟨w.heap.size, o, none⟩ = W.cell? ⟨w.heap.size, o, none⟩ := fun w' o h => h.cell (p := ⟨w.heap.size, o, none⟩) (by rw [hWx.out]; simp)
    have hc2 : ∀ w' o, Below W.heap.size W w' → w'.cell? ⟨w.heap.size + 1, o, none⟩ = W.cell? ⟨w.heap.size + 1, o, none⟩ := fun w' o h => h.cell (p := ⟨w.heap.size + 1, o, none⟩) (by rw [hWx.out]; simp)
    clear hWs
    go_region_held3 (fun w' => Below W.heap.size W w') (repeat' (first | exact Below.refl _ _ | assumption | refine Below.drew ?_ | refine Below.alloc ?_ ?_ _ | refine Below.setCell ?_ ?_ _ | (simp; done) | (simp; omega))) (fail)
    all_goals (go_wp2_with fail)
    · go_meet
      exact TwoBlocks.ab hW
    · go_meet
      exact TwoBlocks.ba hW
  case rest =>
    obtain ⟨⟨g1, g2, rfl, rfl, hk1, hk2⟩, hw⟩ := hcut
    have e1 : ∀ w' o, Below wc.heap.size wc w' → w'.cell? ⟨g1, o, none⟩ = wc.cell? ⟨g1, o, none⟩ := fun w' o h => h.cell (p := ⟨g1, o, none⟩) hk1.lt
    have e2 : ∀ w' o, Below wc.heap.size wc w' → w'.cell? ⟨g2, o, none⟩ = wc.cell? ⟨g2, o, none⟩ := fun w' o h => h.cell (p := ⟨g2, o, none⟩) hk2.lt
    have f1 := hk1.cell
    have f2 := hk2.cell
    have HA := Lib.hid (fun w' (h : Below wc.heap.size wc w') => (⟨attrsR_ok.below hA (below_step hw h) hF, hF.below (below_step hw h)⟩ : attrsR w' F _ a.at_ ∧ InF F w'))
    have HB := Lib.hid (fun w' (h : Below wc.heap.size wc w') => (⟨attrsR_ok.below hB (below_step hw h) hF, hF.below (below_step hw h)⟩ : attrsR w' F _ b.at_ ∧ InF F w'))
    clear hg1 hg2 hWs hW hA hB hF
    go_wp2_with fail
    go_region_held3 (fun w' => Below wc.heap.size wc w') (first | exact below_step (by assumption) hb1 | (repeat' (first | exact Below.refl _ _ | assumption | exact Below.size (by assumption) | refine Below.drew ?_ | refine Below.alloc ?_ ?_ _ | refine Below.setCell ?_ ?_ _ | (simp; done) | (simp; omega))))
      (first
        | (go_at_call 27; (with_reducible refine (cmp_Compare _ _ _).mono ?_); rintro e w' ⟨rfl, rfl⟩)
        | (go_at_call 33; (with_reducible refine (choose_local _ F _ b.at_ (HB.out _ ?_).1 (HB.out _ ?_).2 hb0).mono ?_); assumption; assumption; rintro e w1 ⟨rfl, hb1⟩)
        | (go_at_call 33; (with_reducible refine (choose_local _ F _ a.at_ (HA.out _ ?_).1 (HA.out _ ?_).2 ha0).mono ?_); assumption; assumption; rintro e w1 ⟨rfl, hb1⟩)
        | (go_at_call 30; (with_reducible refine (attr_Hops _ F _ b.at_ (HB.out _ ?_).1 (HB.out _ ?_).2 ht).mono ?_); assumption; assumption; rintro e w1 ⟨rfl, hb1⟩)
        | (go_at_call 30; (with_reducible refine (attr_Hops _ F _ a.at_ (HA.out _ ?_).1 (HA.out _ ?_).2 hs).mono ?_); assumption; assumption; rintro e w1 ⟨rfl, hb1⟩)
        | (go_at_call 25; (with_reducible refine (cmp_Or3 _ _ _ _ _ (rangeAt_new _ _ _)).mono ?_); rintro e w' ⟨rfl, rfl⟩))
    go_wp2_with fail
    go_ret
    exact ⟨rfl, below_step hw (by assumption)⟩

set_option maxHeartbeats 1000000 in
theorem choose_last (w : World) (F : Nat → Prop) (ca cb : List Value) (a b : Cand) (ha : candR w F ca a) (hb : candR w F cb b) :
    Calls Try.prog 26 #[.agg ca.toArray, .agg cb.toArray] w fun e w' => e = .returned (.int .i64 (lastI a b)) ∧ Below w.heap.size w w' := by
  obtain ⟨ac, rfl, ha1, hfa⟩ := ha
  obtain ⟨bc, rfl, hb1, hfb⟩ := hb
  obtain ⟨p1, c1, o1, rfl, hp1, hc1, ho1, hx1⟩ := ha1
  obtain ⟨p2, c2, o2, rfl, hp2, hc2, ho2, hx2⟩ := hb1
  obtain ⟨A1, n1, rfl⟩ := hp1.val
  obtain ⟨A2, n2, rfl⟩ := hc1.val
  obtain ⟨A3, n3, rfl⟩ := ho1.val
  obtain ⟨B1, k1, rfl⟩ := hp2.val
  obtain ⟨B2, k2, rfl⟩ := hc2.val
  obtain ⟨B3, k3, rfl⟩ := ho2.val
  clear hp1 hc1 ho1 hx1 hp2 hc2 ho2 hx2 hfa hfb
  generalize a.at_.path.length = m1 at *
  generalize a.at_.comms.length = m2 at *
  generalize a.at_.others.length = m3 at *
  generalize b.at_.path.length = l1 at *
  generalize b.at_.comms.length = l2 at *
  generalize b.at_.others.length = l3 at *
  go_enter Try.func26, Try.ntmps26
  go_upto_region 1 with fail
  refine wp_gen (fun W => Below w.heap.size w W ∧ W.heap.size = w.heap.size + 2 ∧
    (∀ o, W.cell? ⟨w.heap.size, o, none⟩ = (#[.int .i64 a.peer, .int .u32 a.addr, .int .i64 a.len, .int .i64 a.at_.has, .int .i64 a.at_.origin, .slice A1 m1 n1, .int .u32 a.at_.nextHop, .int .i64 a.at_.med, .int .i64 a.at_.loc, .int .i64 a.at_.aggrAs, .int .u32 a.at_.aggrId, .slice A2 m2 n2, .slice A3 m3 n3, .int .u32 a.id] : Array Value)[o]?) ∧
    (∀ o, W.cell? ⟨w.heap.size + 1, o, none⟩ = (#[.int .i64 b.peer, .int .u32 b.addr, .int .i64 b.len, .int .i64 b.at_.has, .int .i64 b.at_.origin, .slice B1 l1 k1, .int .u32 b.at_.nextHop, .int .i64 b.at_.med, .int .i64 b.at_.loc, .int .i64 b.at_.aggrAs, .int .u32 b.at_.aggrId, .slice B2 l2 k2, .slice B3 l3 k3, .int .u32 b.id] : Array Value)[o]?)) ?_ ?_
  · exact ⟨((Below.refl _ _).alloc (Nat.le_refl _) _).alloc (by simp) _, by simp, ((Blk.new _ _ _).alloc _).cell, (Blk.new2 _ _ _ _).cell⟩
  rintro W ⟨hW, hWs, hg1, hg2⟩
  have hWx := Lib.hid hWs
  have hc1 : ∀ w' o, Below W.heap.size W w' → w'.cell? ⟨w.heap.size, o, none⟩ = W.cell? ⟨w.heap.size, o, none⟩ := fun w' o h => h.cell (p := ⟨w.heap.size, o, none⟩) (by rw [hWx.out]; simp)
  have hc2 : ∀ w' o, Below W.heap.size W w' → w'.cell? ⟨w.heap.size + 1, o, none⟩ = W.cell? ⟨w.heap.size + 1, o, none⟩ := fun w' o h => h.cell (p := ⟨w.heap.size + 1, o, none⟩) (by rw [hWx.out]; simp)
  clear hWs
  go_region_held3 (fun w' => Below W.heap.size W w') (first | exact below_step (by assumption) hb1 | (repeat' (first | exact Below.refl _ _ | assumption | exact Below.size (by assumption) | refine Below.drew ?_ | refine Below.alloc ?_ ?_ _ | refine Below.setCell ?_ ?_ _ | (simp; done) | (simp; omega))))
    (first
      | (go_at_call 27; (with_reducible refine (cmp_Compare _ _ _).mono ?_); rintro e w' ⟨rfl, rfl⟩)
      | (go_at_call 35; (with_reducible refine (cmp_CompareA _ _ _).mono ?_); rintro e w' ⟨rfl, rfl⟩)
      | (go_at_call 25; (with_reducible refine (cmp_Or2 _ _ _ _ (rangeAt_new_d _ _ _)).mono ?_); rintro e w' ⟨rfl, rfl⟩))
  go_wp2_with fail
  go_ret
  exact ⟨rfl, below_step hW (by assumption)⟩
end Go.Proofs.Ytngfabnkgpidjaa
