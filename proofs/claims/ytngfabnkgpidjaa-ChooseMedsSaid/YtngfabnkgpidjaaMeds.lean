/- ChooseMeds: of two routes by one system the one of the lesser Med is best; it returns true at every input. -/
import Derived.Test.YtngfabnkgpidjaaChooseI
namespace Go.Proofs.Ytngfabnkgpidjaa
open Go.RowKit
set_option linter.unusedVariables false

def medC (first med id : Int) : Cand := ⟨id, 0, 0, ⟨30, 0, [⟨false, [first, 7]⟩], 0, med, 0, 0, 0, [], []⟩, 1 + id⟩
set_option maxHeartbeats 2000000 in
theorem law_make1 (w : World) (F : Nat → Prop) (hF : InF F w) (first med : Int) (id : Nat) (hf : 0 ≤ first ∧ first ≤ 1000) (hm : 0 ≤ med ∧ med ≤ 1000) (hi : id ≤ 10) :
    Calls Try.prog 9 #[.int .i64 first, .int .i64 med, .int .i64 id] w fun e w' => ∃ cs F', e = .returned (.agg cs.toArray) ∧ candR w' F' cs (medC first med id) ∧ Grew w F w' F' := by
  go_enter Try.func9, Try.ntmps9
  have hb0 := (Below.refl w.heap.size w).alloc (Nat.le_refl _) (.cells #[.int .i64 0, .int .u32 0, .int .i64 0, .int .i64 0, .int .i64 0, .slice none 0 0, .int .u32 0, .int .i64 0, .int .i64 0, .int .i64 0, .int .u32 0, .slice none 0 0, .slice none 0 0, .int .u32 0] 35)
  have hg0 : Grew w F (w.alloc (.cells #[.int .i64 0, .int .u32 0, .int .i64 0, .int .i64 0, .int .i64 0, .slice none 0 0, .int .u32 0, .int .i64 0, .int .i64 0, .int .i64 0, .int .u32 0, .slice none 0 0, .slice none 0 0, .int .u32 0] 35)) F := (Grew.refl hF).alloc _
  have e1 : ((1 + id : Nat) : Int) = 1 + (id : Int) := by omega
  have hr := fun W (hW : InF F W) => law_route W F hW 0 id (1 + id) (by omega) (by omega) (by omega)
  rw [e1] at hr
  have Hr := Lib.hid hr
  clear hr e1
  go_wp2_with fail
  refine (Hr.out _ hg0.lt).mono ?_
  rintro e w1 ⟨cs1, F1, rfl, hR1, hg1⟩
  obtain ⟨A1, n1, c1, A2, n2, c2, A3, n3, c3, rfl⟩ := hR1.lit
  have hz1 := (Blk.new w 35 #[.int .i64 0, .int .u32 0, .int .i64 0, .int .i64 0, .int .i64 0, .slice none 0 0, .int .u32 0, .int .i64 0, .int .i64 0, .int .i64 0, .int .u32 0, .slice none 0 0, .slice none 0 0, .int .u32 0]).below hg1.below (by simp)
  have hl1 : w.heap.size < w1.heap.size := hz1.lt
  have hc1 := hz1.cell
  have hf1 := hz1.free
  have Hg := Lib.hid (hg0.trans hg1)
  have HR1 := Lib.hid hR1
  have Hfr := Lib.hid hg1.fresh
  clear hR1 hg1 hg0 hb0
  dsimp only [routeC]
  go_upto_region 5 with fail
  have hor : bits .or .i64 14 16 = 30 := by decide +kernel
  rw [hor]
  refine wp_gen (fun W => Below w1.heap.size w1 W ∧ Blk W w1.heap.size 35 #[.int .i64 id, .int .u32 0, .int .i64 0, .int .i64 30, .int .i64 0, .slice (some ⟨w1.heap.size + 1 + 1, 0, none⟩) 1 1, .int .u32 0, .int .i64 med, .int .i64 0, .int .i64 0, .int .u32 0, .slice A2 n2 c2, .slice A3 n3 c3, .int .u32 (1 + (id : Int))] ∧
    W.rangeAt (w1.heap.size + 1) 0 [.int .i64 first, .int .i64 7] ∧ W.rangeAt (w1.heap.size + 1 + 1) 0 [.bool false, .slice (some ⟨w1.heap.size + 1, 0, none⟩) 2 2] ∧ w1.heap.size + 2 < W.heap.size) ?_ ?_
  · refine ⟨((((Below.refl _ _).alloc (Nat.le_refl _) _).alloc (by simp) _).alloc (by simp; omega) _), ((Blk.new w1 _ _).alloc _).alloc _, ((Blk.new2 w1 _ _ _).alloc _).range (cs := [.int .i64 first, .int .i64 7]), ?_, by simp⟩
    have := (Blk.new2 (w1.alloc (.cells #[.int .i64 id, .int .u32 0, .int .i64 0, .int .i64 30, .int .i64 0, .slice (some ⟨w1.heap.size + 1 + 1, 0, none⟩) 1 1, .int .u32 0, .int .i64 med, .int .i64 0, .int .i64 0, .int .u32 0, .slice A2 n2 c2, .slice A3 n3 c3, .int .u32 (1 + (id : Int))] 35)) (.cells #[.int .i64 first, .int .i64 7] 3) 38 #[.bool false, .slice (some ⟨w1.heap.size + 1, 0, none⟩) 2 2]).range (cs := [.bool false, .slice (some ⟨w1.heap.size + 1, 0, none⟩) 2 2])
    simp only [World.size_alloc] at this
    exact this
  rintro W ⟨hW, hkb, hr1, hr2, hWs⟩
  have hzW := hz1.below hW hl1
  have hcW := hkb.cell
  clear hc1 hf1 hz1
  go_wp2_with (refine wpList_store_blk rfl 35 (.tmp 6) (.tmp 31) rfl w.heap.size 35 _ _ rfl rfl hzW ?hsz ?hi ?h1 ?_)
  case hsz => rfl
  case hi => rfl
  case h1 => intro u hu; simp at hu; rcases hu with rfl | rfl | rfl | rfl | rfl | rfl | rfl | rfl | rfl | rfl | rfl | rfl | rfl | rfl <;> rfl
  intro w9 hblk9 hg9
  go_wp2_with fail
  refine bodyPost_ret (results_cell_row rfl _ _ w.heap.size 35 _ (0, 0) _ rfl hblk9.heap Try.underlying35 rfl rfl) rfl ?_
  have hne1 : w1.heap.size + 1 ≠ w.heap.size := by omega
  have hne2 : w1.heap.size + 1 + 1 ≠ w.heap.size := by omega
  have hr1' := rangeAt_block hr1 (hg9.block (w1.heap.size + 1) (by omega) (by simp; omega))
  have hr2' := rangeAt_block hr2 (hg9.block (w1.heap.size + 1 + 1) (by omega) (by simp; omega))
  have hgo := Hg.out
  have hF1w : ∀ b, F1 b → w9.heap[b]? = w1.heap[b]? := fun b hb => (hg9.block b (Nat.lt_of_lt_of_le (hgo.lt b hb) hW.size) (by
    intro e
    cases e
    rcases Hfr.out _ hb with h | h
    · exact Nat.lt_irrefl _ (hF _ h)
    · simp at h
      omega)).trans (hW.block b (hgo.lt b hb))
  have has : listR 1 (intR .i64) w9 (fun b => F1 b ∨ b = w1.heap.size + 1) [.slice (some ⟨w1.heap.size + 1, 0, none⟩) 2 2] [first, 7] :=
    listR_lit (intR_ok _) (F := F1) (Groups.ints (k := .i64) (xs := [first, 7]) (by intro x hx; simp at hx; rcases hx with rfl | rfl <;> exact i64_mk (by omega) (by omega))) rfl (by omega) hr1'
  have hpR := listR_one segR_ok (⟨_, rfl, has⟩ : segR w9 _ [.bool false, .slice (some ⟨w1.heap.size + 1, 0, none⟩) 2 2] ⟨false, [first, 7]⟩) hr2'
  obtain ⟨p1, q1, o1, he, _, hq1, ho1, _⟩ := HR1.out.at_
  simp only [List.cons.injEq, and_true] at he
  obtain ⟨_, _, _, _, _, _, _, _, rfl, rfl⟩ := he
  have hq9 := (listR_ok (intR_ok .i64)).keep hq1 hF1w (F' := fun b => (F1 b ∨ b = w1.heap.size + 1) ∨ b = w1.heap.size + 1 + 1) fun b h => .inl (.inl h)
  have ho9 := (listR_ok otherR_ok).keep ho1 hF1w (F' := fun b => (F1 b ∨ b = w1.heap.size + 1) ∨ b = w1.heap.size + 1 + 1) fun b h => .inl (.inl h)
  have hs9 := hg9.size
  have hgs := hgo.below.size
  have hB9 : Below w.heap.size w w9 := (below_step hgo.below hW).trans (grownBy_below hg9 (Nat.le_refl _) (by omega))
  refine ⟨_, _, rfl, ⟨[_, _, _, _, _, _, _, _, _, _], rfl, ⟨_, _, _, rfl, hpR, hq9, ho9, ?_⟩, ?_⟩, ⟨hB9, fun b hb => .inl (.inl (hgo.sub b hb)), fun b hb => ?_, fun b hb => ?_⟩⟩
  · refine ⟨?_, ?_, ?_, ?_, ?_, ?_, ?_⟩ <;> simp [medC] <;> omega
  · refine ⟨?_, ?_, ?_, ?_⟩ <;> simp [medC] <;> omega
  · rcases hb with (hb | rfl) | rfl
    · exact hgo.fresh b hb
    · exact .inr (by omega)
    · exact .inr (by omega)
  · rcases hb with (hb | rfl) | rfl
    · have := hgo.lt b hb; have := hW.size; omega
    · omega
    · omega
theorem and255 (a : Int) : ∃ n : Nat, n ≤ 255 ∧ bits .and .i64 a 255 = (n : Int) := by
  refine ⟨(BitVec.ofInt 64 a &&& BitVec.ofInt 64 255).toNat, ?_, ?_⟩
  · rw [BitVec.toNat_and]
    exact Nat.le_trans Nat.and_le_right (by decide)
  · have h : (BitVec.ofInt 64 a &&& BitVec.ofInt 64 255).toNat ≤ 255 := by
      rw [BitVec.toNat_and]
      exact Nat.le_trans Nat.and_le_right (by decide)
    show IntKind.i64.wrap ((BitVec.ofInt 64 a &&& BitVec.ofInt 64 255).toNat : Int) = _
    rw [IntKind.wrap_i64]
    omega
theorem before_meds (f g a b i j : Int) : beforeI (medC f a i) (medC g b j) = 0 := by
  have h : ∀ f m i : Int, (medC f m i).at_.likes = 100 := fun f m i => by
    have h5 : Nat.testBit 30 5 = false := by decide
    simp [Attrs.likes, Attrs.is, medC, h5]
  rw [beforeI, h, h]
  rfl
theorem bestI_meds (a b s : Int) : bestI [medC 100 a 0, medC s b 1] = if s = 100 ∧ b < a then 1 else 0 := by
  have hc0 : candAt [medC 100 a 0, medC s b 1] 0 = medC 100 a 0 := rfl
  have hc1 : candAt [medC 100 a 0, medC s b 1] 1 = medC s b 1 := rfl
  have hb : bestBy beforeI (candAt [medC 100 a 0, medC s b 1] 0) [medC 100 a 0, medC s b 1] = medC 100 a 0 := by
    simp [bestBy, minBy, before_meds]
  have hl : leftTo [medC 100 a 0, medC s b 1] (medC 100 a 0) 2 = [0, 1] := by
    simp [leftTo, hc0, hc1, before_meds]
  have hf : ∀ f m i : Int, (medC f m i).at_.first = f := fun f m i => rfl
  have hm : ∀ f m i : Int, (medC f m i).at_.med = m := fun f m i => rfl
  have hlen : [medC 100 a 0, medC s b 1].length = 2 := rfl
  have hr01 : rankI [medC 100 a 0, medC s b 1] 1 0 = 1 := rfl
  rw [bestI, if_neg (by simp), hb, hlen, hl]
  by_cases hs : s = 100
  · subst hs
    by_cases hba : b < a
    · have : stayI [medC 100 a 0, medC 100 b 1] [0, 1] = [1] := by
        simp [stayI, goneI, leastOf, leastStep, putF, firstAt, medAt, hc0, hc1, hf, hm, hba]
      rw [this, if_pos ⟨rfl, hba⟩]
      rfl
    · rw [if_neg (by omega)]
      by_cases hab : a < b
      · have : stayI [medC 100 a 0, medC 100 b 1] [0, 1] = [0] := by
          simp [stayI, goneI, leastOf, leastStep, putF, firstAt, medAt, hc0, hc1, hf, hm, hba, hab]
        rw [this]
        rfl
      · have he : a = b := by omega
        subst he
        have : stayI [medC 100 a 0, medC 100 a 1] [0, 1] = [0, 1] := by
          simp [stayI, goneI, leastOf, leastStep, putF, firstAt, medAt, hc0, hc1, hf, hm]
        rw [this]
        simp [bestBy, minBy, hr01]
  · rw [if_neg (by omega)]
    have : stayI [medC 100 a 0, medC s b 1] [0, 1] = [0, 1] := by
      have hs' : ¬ (100 : Int) = s := fun h => hs h.symm
      simp [stayI, goneI, leastOf, leastStep, putF, firstAt, medAt, hc0, hc1, hf, hm, hs, hs']
    rw [this]
    simp [bestBy, minBy, hr01]

theorem medC_good (f m i : Int) : (medC f m i).Good := by
  refine ⟨⟨?_, ?_, ?_, ?_, ?_⟩, ?_⟩ <;> simp [medC]
def MedsRet (one : Bool) (a b : Int) (r : Int) : Prop := r = if one = true ∧ b < a then 1 else 0
set_option maxHeartbeats 2000000 in
theorem law_ChooseMeds (w : World) (a0 b0 : Int) (one : Bool) :
    Calls Try.prog 3 #[.int .i64 a0, .int .i64 b0, .bool one] w fun e w' => e = .returned (.bool true) ∧ Below w.heap.size w w' := by
  obtain ⟨a, ha, hae⟩ := and255 a0
  obtain ⟨b, hb, hbe⟩ := and255 b0
  have hb1 : bits .and .i64 a0 255 = (a : Int) ∧ bits .and .i64 b0 255 = (b : Int) := ⟨hae, hbe⟩
  have ha' : (a : Int) ≤ 255 := by omega
  have hb' : (b : Int) ≤ 255 := by omega
  obtain ⟨r, s, hcase⟩ : ∃ r s : Int, (one = true ∧ (b : Int) < a ∧ r = 1 ∧ s = 100) ∨ (one = true ∧ (a : Int) ≤ b ∧ r = 0 ∧ s = 100) ∨ (one = false ∧ r = 0 ∧ s = 200) := by
    cases one
    · exact ⟨0, 200, .inr (.inr ⟨rfl, rfl, rfl⟩)⟩
    · by_cases h : (b : Int) < a
      · exact ⟨1, 100, .inl ⟨rfl, h, rfl, rfl⟩⟩
      · exact ⟨0, 100, .inr (.inl ⟨rfl, by omega, rfl, rfl⟩)⟩
  have hs : 0 ≤ s ∧ s ≤ 1000 := by omega
  have hr : bestI [medC 100 a 0, medC s b 1] = r := by
    rw [bestI_meds]
    rcases hcase with ⟨_, h, rfl, rfl⟩ | ⟨_, h, rfl, rfl⟩ | ⟨_, rfl, rfl⟩
    · rw [if_pos ⟨rfl, h⟩]
    · rw [if_neg (by omega)]
    · rw [if_neg (by omega)]
  have HH := Lib.hid (fun W F hF => law_make1 W F hF 100 a 0 (by omega) (by omega) (by omega))
  have HH1 := Lib.hid (fun W F hF => law_make1 W F hF s b 1 hs (by omega) (by omega))
  have hr2 : bestI [medC 100 a ((0 : Nat) : Int), medC s b ((1 : Nat) : Int)] = r := hr
  have HR := Lib.hid hr2
  clear hr hr2 hs hb1
  rcases hcase with ⟨rfl, hba, rfl, rfl⟩ | ⟨rfl, hba, rfl, rfl⟩ | ⟨rfl, rfl, rfl⟩
  all_goals
    go_enter Try.func3, Try.ntmps3
    go_wp2_with fail
    refine (law_head w).mono ?_
    rintro e w0 ⟨rfl, hb0⟩
    go_wp2_with fail
    refine (HH.out w0 NoF (noF_in _)).mono ?_
    rintro e w1 ⟨cs1, F1, rfl, hR1, hg1⟩
    obtain ⟨A1, n1, c1, A2, n2, c2, A3, n3, c3, rfl⟩ := hR1.lit
    go_wp2_with fail
    refine (HH1.out w1 F1 hg1.lt).mono ?_
    rintro e w2 ⟨cs2, F2, rfl, hR2, hg2⟩
    obtain ⟨B1, m1, d1, B2, m2, d2, B3, m3, d3, rfl⟩ := hR2.lit
    have hG1 := candR_ok.grew hR1 hg2 hg1.lt
    have hgs : Groups candR w2 F2 _ [_, _] := ⟨_, _, rfl, hG1, _, _, rfl, hR2, rfl⟩
    have Hgs := Lib.hid hgs
    have Hgr := Lib.hid (hg1.trans hg2)
    clear hR1 hR2 hg1 hg2 hG1 hgs
    go_wp2_with fail
    refine (choose_Best1 _ (fun b => F2 b ∨ b = w2.heap.size) _ 0 2 2 _ (listR_lit candR_ok (Hgs.out.keep candR_ok (fun b hb => Below.heap_alloc _ _ _ (Hgr.out.lt b hb)) fun _ h => h) rfl (by omega) (rangeAt_new _ _ _)) ?_ (.inr rfl) (by omega) (by omega) ?_).mono ?_
    · exact ((Hgr.out.alloc _).freeze Hgr.out.below.size (by simp)).lt
    · intro x hx
      simp at hx
      rcases hx with rfl | rfl <;> exact medC_good _ _ _
    rintro e w4 ⟨rfl, hb4⟩
    rw [HR.out]
    have hB4 := below_step hb0 (below_step (Hgr.out.alloc _).below hb4)
    clear hb4
    go_wp2_with fail
    go_ret
    exact ⟨rfl, hB4⟩
end Go.Proofs.Ytngfabnkgpidjaa
