/- choose.Best returns bestI. -/
import Derived.Test.YtngfabnkgpidjaaChooseF
namespace Go.Proofs.Ytngfabnkgpidjaa
open Go.RowKit
set_option linter.unusedVariables false

theorem int_info : (Try.prog.info? 3).map (fun i => (i.zero, i.size, i.bytes)) = some (some (.int .i64 0), 1, 8) := by kernel_rfl

theorem own_form {w : World} {base : Nat} {e : TypeId} {size n : Nat} {v : Value} {xs : List Value} (h : w.ownsRow base e size v n xs) (hn : 0 < n) : ∃ g c, v = .slice (some ⟨g, 0, none⟩) n c ∧ base ≤ g ∧ g < w.heap.size := by
  rcases h.2 with ⟨_, h0⟩ | ⟨g, cap, cur, hv, hb, hg, _⟩
  · omega
  · exact ⟨g, cap, hv, hb, (Array.getElem?_eq_some_iff.1 hg).1⟩

set_option maxHeartbeats 1000000 in
theorem choose_Best0 (w : World) (c : Nat) (A : Option Addr) : Calls Try.prog 11 #[.slice A 0 c] w fun e w' => e = .returned (.int .i64 (-1)) ∧ Below w.heap.size w w' := by
  go_enter Try.func11, Try.ntmps11
  go_wp2_with fail
  go_ret
  exact ⟨rfl, (Below.refl _ _).alloc (Nat.le_refl _) _⟩

attribute [local go_sem ↓] Go.wp_at_zero Go.wp_at_succ
set_option maxHeartbeats 2000000 in
theorem choose_Best1 (w : World) (F : Nat → Prop) (b off n c : Nat) (xs : List Cand) (hl : listR 14 candR w F [.slice (some ⟨b, off, none⟩) n c] xs) (hF : InF F w) (hFb : F b) (hn0 : 0 < n) (hn : n ≤ 1048576) (hg : ∀ x ∈ xs, x.Good) :
    Calls Try.prog 11 #[.slice (some ⟨b, off, none⟩) n c] w fun e w' => e = .returned (.int .i64 (bestI xs)) ∧ Below w.heap.size w w' := by
  have Hn := Lib.hid hl.len.1
  have hbl := hF b hFb
  have hz : ((n : Int) == 0) = false := beq_eq_false_iff_ne.2 (by omega)
  have Hg := Lib.hid hg
  have Hl := Lib.hid hl
  have hmm := @run_makeMap Try.prog
  obtain ⟨i0, hi, hz0, hz1, hz2⟩ := info_parts int_info
  clear hg hl
  go_enter Try.func11, Try.ntmps11
  go_wp2_with fail
  have hb0 := (Below.refl w.heap.size w).alloc (Nat.le_refl _) (.cells #[.slice (some ⟨b, off, none⟩) n c] 40)
  refine (minFunc_before _ F _ n c xs ((listR_ok candR_ok).below Hl.out hb0 hF) (hF.below hb0) hn0 hn Hg.out (candAt xs 0)).mono ?_
  rintro e w1 ⟨cf, rfl, hR1, hb1⟩
  obtain ⟨f, hf⟩ : ∃ f, f = bestBy beforeI (candAt xs 0) xs := ⟨_, rfl⟩
  rw [← hf] at hR1
  have Hf := Lib.hid hf
  have hfm : f ∈ xs := by
    rw [hf]
    exact bestBy_mem _ _ (by intro h; have := Hn.out; rw [h] at this; simp at this; omega)
  obtain ⟨A1, n1, c1, A2, n2, c2, A3, n3, c3, rfl⟩ := hR1.lit
  have hsz1 : w.heap.size + 1 ≤ w1.heap.size := by have := hb1.size; simp at this; omega
  have hs1 : w1.cell? ⟨w.heap.size, 0, none⟩ = some (.slice (some ⟨b, off, none⟩) n c) := by
    rw [hb1.cell (by simp)]; simp
  have hB1 := hb0.trans (hb1.mono (by simp))
  clear hf
  go_upto_region 5 with fail
  refine wp_gen (fun W => Below w.heap.size w W ∧ Blk W w1.heap.size 35 #[.int .i64 f.peer, .int .u32 f.addr, .int .i64 f.len, .int .i64 f.at_.has, .int .i64 f.at_.origin, .slice A1 n1 c1, .int .u32 f.at_.nextHop, .int .i64 f.at_.med, .int .i64 f.at_.loc, .int .i64 f.at_.aggrAs, .int .u32 f.at_.aggrId, .slice A2 n2 c2, .slice A3 n3 c3, .int .u32 f.id] ∧
    W.cell? ⟨w.heap.size, 0, none⟩ = some (.slice (some ⟨b, off, none⟩) n c) ∧ w.heap.size + 1 ≤ W.heap.size ∧ candR W F [.int .i64 f.peer, .int .u32 f.addr, .int .i64 f.len, .int .i64 f.at_.has, .int .i64 f.at_.origin, .slice A1 n1 c1, .int .u32 f.at_.nextHop, .int .i64 f.at_.med, .int .i64 f.at_.loc, .int .i64 f.at_.aggrAs, .int .u32 f.at_.aggrId, .slice A2 n2 c2, .slice A3 n3 c3, .int .u32 f.id] f) ?_ ?_
  · have hb2 := hB1.alloc hB1.size (.cells #[.int .i64 f.peer, .int .u32 f.addr, .int .i64 f.len, .int .i64 f.at_.has, .int .i64 f.at_.origin, .slice A1 n1 c1, .int .u32 f.at_.nextHop, .int .i64 f.at_.med, .int .i64 f.at_.loc, .int .i64 f.at_.aggrAs, .int .u32 f.at_.aggrId, .slice A2 n2 c2, .slice A3 n3 c3, .int .u32 f.id] 35)
    refine ⟨hb2, Blk.new _ _ _, ?_, by simp; omega, candR_ok.keep hR1 (fun b hb => Below.heap_alloc _ _ _ (Nat.lt_of_lt_of_le (hF b hb) hB1.size)) fun _ h => h⟩
    rw [World.cell?_alloc_lt _ _ _ (show w.heap.size < w1.heap.size by omega)]
    exact hs1
  rintro W ⟨hW, hkf, hvar, hWs, hRf⟩
  clear hs1 hsz1 hB1 hb1 hR1 hb0
  have hvl := World.block_lt_of_cell? W _ hvar
  go_wp2_with fail
  go_loopw [4, 20] (fun l i wr => ∃ (k : Nat) (L : List Int), k ≤ n ∧ i = .int .i64 k ∧ L = leftTo xs f k ∧ wr.ownsRow W.heap.size 3 1 l L.length (L.map (Value.int .i64)) ∧ Below W.heap.size W wr) (fun _ i _ => n - (intOf i).toNat)
  case atStart => exact ⟨0, [], Nat.zero_le _, rfl, rfl, World.ownsRow_nil _ _ _ _, Below.refl _ _⟩
  case round =>
    obtain ⟨k, L, hk, rfl, hL, hown, hB⟩ := hrel
    have HL := Lib.hid hL
    clear hL
    have hBw := below_step hW hB
    have hv1 := (hB.cell (p := ⟨w.heap.size, 0, none⟩) hvl).trans hvar
    have hFr : InF F wr := hF.below hBw
    by_cases hlt : k < n
    · obtain ⟨x, hx⟩ : ∃ x, xs[k]? = some x := ⟨_, List.getElem?_eq_getElem (by rw [← Hn.out]; exact hlt)⟩
      obtain ⟨b', off', cx, he, _, hRx, hrx⟩ := Hl.out.at_ hx
      cases he
      have hRx' := candR_ok.below hRx hBw hF
      obtain ⟨B1, m1, d1, B2, m2, d2, B3, m3, d3, rfl⟩ := hRx'.lit
      obtain ⟨l1, l2⟩ := cells_now (rangeAt_below hrx hBw hbl)
      have l3 := (hkf.below hB hkf.lt).cell
      have q1 := (hkf.below hB hkf.lt).lt
      have q2 := Nat.lt_of_lt_of_le hvl hB.size
      have q3 := hFr b hFb
      have HX := Lib.hid (fun w' (h : Below wr.heap.size wr w') => (⟨candR_ok.below hRx' h hFr, candR_ok.below (candR_ok.below hRf hB (hF.below hW)) h hFr, hFr.below h⟩ : candR w' F _ x ∧ candR w' F _ f ∧ InF F w'))
      have HG := Lib.hid (⟨Hg.out x (List.mem_of_getElem? hx), Hg.out f hfm⟩ : x.Good ∧ f.Good)
      have Hx := Lib.hid (candAt_get hx)
      clear hRx hrx hx hRx'
      go_wp2_with fail
      refine (choose_before _ F _ _ x f (HX.out _ ?_).1 (HX.out _ ?_).2.1 (HX.out _ ?_).2.2 HG.out.1.small HG.out.2.small HG.out.1.has HG.out.2.has).mono ?_
      · exact (Below.refl _ _).alloc (Nat.le_refl _) _
      · exact (Below.refl _ _).alloc (Nat.le_refl _) _
      · exact (Below.refl _ _).alloc (Nat.le_refl _) _
      rintro e w2 ⟨rfl, hb2⟩
      have hB2' := ((Below.refl wr.heap.size wr).alloc (Nat.le_refl _) _).trans (hb2.mono (by simp))
      have hB2 := below_step hB hB2'
      have hown2 : w2.ownsRow W.heap.size 3 1 _ L.length (L.map (Value.int .i64)) := hown.kept (grownBy_of_below hB2') (Classical.em _)
      have hk0 : k < 1048576 := by omega
      have hLk : L.length ≤ k := by rw [HL.out]; exact leftTo_len _ _ _
      clear l1 l2 l3 hb2 hv1 HX q1 q2 q3
      by_cases h0 : beforeI x f = 0
      · have hb : (beforeI x f == 0) = true := by simpa using h0
        have H0 := Lib.hid h0
        clear h0
        go_wp2_with (at_builtin; refine wpList_append_own _ rfl (.tmp 29) (.tmp 31) _ rfl W.heap.size 3 i0 (.int .i64 0) 1 8 Try.underlying28 hi hz0 hz1 hz2 rfl (by decide) _ _ _ rfl (hown2.alloc _) ⟨w2.heap.size, 0, none⟩ 1 1 [.int .i64 k] rfl rfl ?c1 ?c2 ?c3 ?c4 ?c5 ?_)
        case c1 => exact cell_one_new _ _ _
        case c2 => simp [Value.oneCell']
        case c3 => simp only [maxLen]; omega
        case c4 => omega
        case c5 => simp; have := hB2.size; omega
        intro v3 w3 hown3 hg3 _
        go_wp2_with fail
        go_roundw
        case rel => exact ⟨k + 1, L ++ [(k : Int)], by omega, by go_num, by rw [leftTo, if_pos (by rw [Hx.out]; exact H0.out), HL.out], by simpa using hown3, (hB2.alloc hB2.size _).grown hg3 (by have := hB2.size; simp; omega) (fun g hgg => (hown2.lt g hgg).1)⟩
        case measure => simp [intOf]; omega
      · have hb : (beforeI x f == 0) = false := by simpa using h0
        have H0 := Lib.hid h0
        clear h0
        go_wp2_with fail
        go_roundw
        case rel => exact ⟨k + 1, L, by omega, by go_num, by rw [leftTo, if_neg (by rw [Hx.out]; exact H0.out)]; exact HL.out, hown2, hB2⟩
        case measure => simp [intOf]; omega
    · obtain rfl : n = k := by omega
      have hLn : L = leftTo xs f xs.length := by rw [HL.out, ← Hn.out]
      have hLne : 0 < L.length := by
        have := leftTo_ne hfm
        rw [← hLn] at this
        exact List.length_pos_iff.2 this
      obtain ⟨g4, c4, rfl, hg4, hg4l⟩ := own_form hown hLne
      have hLle : L.length ≤ n := by rw [HL.out]; exact leftTo_len _ _ _
      have HLn := Lib.hid hLn
      have Hown := Lib.hid hown
      have hLz : 0 ≤ (L.length : Int) := by omega
      clear hLn hown hi hz0 hz1 hz2 hkf hRf
      generalize hln : L.length = ln at *
      have Hln := Lib.hid hln
      clear hln
      go_upto_region 12 with fail
      refine wp_gen (fun W3 => Below wr.heap.size wr W3 ∧ IMap Try.prog 3 3 W3 wr.heap.size 0 (fun _ => none) ∧ W3.cell? ⟨wr.heap.size + 1, 0, none⟩ = some (.map (some wr.heap.size)) ∧ wr.heap.size + 2 ≤ W3.heap.size) ?_ ?_
      · refine ⟨((Below.refl _ _).alloc (Nat.le_refl _) _).alloc (by simp) _, (IMap.made _ _ _).below ((Below.refl _ _).alloc (Nat.le_refl _) _), ?_, by simp⟩
        exact (Blk.new2 wr _ _ _).cell 0
      rintro W3 ⟨hW3, hM0, hmv, hW3s⟩
      have hvW3 := (hW3.cell (p := ⟨w.heap.size, 0, none⟩) (Nat.lt_of_lt_of_le hvl hB.size)).trans hv1
      have hown3 : W3.ownsRow W.heap.size 3 1 (.slice (some ⟨g4, 0, none⟩) ln c4) ln (L.map (Value.int .i64)) := Hown.out.kept (grownBy_of_below hW3) (by simp [Value.ownBlock])
      have hB3 := below_step hBw hW3
      clear hv1
      obtain ⟨wo, rfl⟩ : ∃ wo : World, wo = wr := ⟨_, rfl⟩
      obtain ⟨M, hMe⟩ : ∃ M, M = wo.heap.size := ⟨_, rfl⟩
      rw [← hMe] at hM0 hmv hW3s
      have HMe := Lib.hid hMe
      have hgm : wo.heap.size + 1 = M + 1 := by rw [hMe]
      have hMl := hM0.lt
      have hg4M : g4 < M := by rw [hMe]; exact hg4l
      have hvM : w.heap.size < M := by rw [hMe]; exact Nat.lt_of_lt_of_le hvl hB.size
      have hbM : b < M := by rw [hMe]; exact Nat.lt_of_lt_of_le (hF b hFb) hBw.size
      have hFM : ∀ b, F b → b < M := fun b hb => by rw [hMe]; exact Nat.lt_of_lt_of_le (hF b hb) hBw.size
      have HFM := Lib.hid hFM
      clear hMe hFM
      go_wp2_with fail
      rw [hgm]
      have Hgm := Lib.hid hgm
      clear hgm
      go_loopw [37] (fun i wr => ∃ (j N : Nat) (f' : Int → Option Int), j ≤ ln ∧ N ≤ j ∧ i = .int .i64 j ∧ f' = leastOf xs (L.take j) ∧ IMap Try.prog 3 3 wr M N f' ∧ W3.grownBy wr (some M)) (fun i _ => ln - (intOf i).toNat)
      case atStart => exact ⟨0, 0, _, Nat.zero_le _, Nat.le_refl _, rfl, rfl, hM0, grownBy_refl _ _⟩
      case round =>
        obtain ⟨j, N, f', hj, hNj, rfl, hf', hM, hG⟩ := hrel
        have HG3 := Lib.hid hG
        have Hf' := Lib.hid hf'
        have HM := Lib.hid hM
        have hv1 : wr.cell? ⟨w.heap.size, 0, none⟩ = some (.slice (some ⟨b, off, none⟩) n c) := (World.cell?_of_block (a := ⟨w.heap.size, 0, none⟩) (hG.block w.heap.size (by omega) (by simp; omega))).trans hvW3
        have hm1 : wr.cell? ⟨M + 1, 0, none⟩ = some (.map (some M)) := (World.cell?_of_block (a := ⟨M + 1, 0, none⟩) (hG.block (M + 1) (by omega) (by simp))).trans hmv
        have hrow : wr.heap[g4]? = W3.heap[g4]? := hG.block g4 (by omega) (by simp; omega)
        have hGs := hG.size
        have Hrow := Lib.hid hrow
        clear hG hf' hM hrow
        by_cases hlt : j < ln
        · obtain ⟨y, hy⟩ : ∃ x, L[j]? = some x := ⟨_, List.getElem?_eq_getElem (by rw [Hln.out]; exact hlt)⟩
          obtain ⟨k, hk, rfl, hk0⟩ := leftTo_mem.1 (HLn.out ▸ List.mem_of_getElem? hy)
          rw [← Hn.out] at hk
          obtain ⟨x, hx⟩ : ∃ x, xs[k]? = some x := ⟨_, List.getElem?_eq_getElem (by rw [← Hn.out]; exact hk)⟩
          have hcj : wr.cell? ⟨g4, j, none⟩ = some (.int .i64 k) := by
            rw [World.cell?_of_block (w := W3) (a := ⟨g4, j, none⟩) Hrow.out]
            have := hown3.cells (g := g4) rfl j (.int .i64 k) (by rw [List.getElem?_map, hy]; rfl)
            rwa [Addr.add_mid, Nat.zero_add] at this
          obtain ⟨b', off', cx, he, _, hRx, hrx⟩ := Hl.out.at_ hx
          cases he
          have hkF : ∀ b, F b → wr.heap[b]? = w.heap[b]? := fun b hb => ((HG3.out).block b (by have := HFM.out b hb; omega) (by have := HFM.out b hb; simp; omega)).trans (hB3.block b (hF b hb))
          have hRx' : candR wr F cx x := candR_ok.keep hRx hkF fun _ h => h
          obtain ⟨B1, m1, d1, B2, m2, d2, B3, m3, d3, rfl⟩ := hRx'.lit
          have hrx' := rangeAt_block hrx (hkF b hFb)
          obtain ⟨l1, l2⟩ := cells_now hrx'
          obtain ⟨l3, l4⟩ := cells_now (rangeAt_drop hrx' 3)
          simp only [List.drop_succ_cons, List.drop_zero] at l3 l4
          have HAt := Lib.hid hRx'.at_
          have Hfi := Lib.hid hRx'.at_.first_ok
          have hFr : InF F wr := fun b hb => by have := HFM.out b hb; omega
          have HC := Lib.hid (candAt_get hx)
          have HS := Lib.hid (leastOf_snoc xs (L.take j) (k : Int))
          have HT := Lib.hid (take_snoc hy)
          have hk' : (k : Int) < (n : Int) := by omega
          have hk'' : (0 : Int) ≤ (k : Int) := by omega
          clear hRx hrx hx hRx' hrx' hy hkF hk0
          go_upto_region 16 with fail
          refine wp_gen (fun W5 => Below wr.heap.size wr W5 ∧ Blk W5 wr.heap.size 31 #[.int .i64 x.at_.has, .int .i64 x.at_.origin, .slice B1 m1 d1, .int .u32 x.at_.nextHop, .int .i64 x.at_.med, .int .i64 x.at_.loc, .int .i64 x.at_.aggrAs, .int .u32 x.at_.aggrId, .slice B2 m2 d2, .slice B3 m3 d3]) ?_ ?_
          · exact ⟨(Below.refl _ _).alloc (Nat.le_refl _) _, Blk.new _ _ _⟩
          rintro W5 ⟨hW5, hA5⟩
          have k1 := hA5.cells
          have k2 : ∀ w', Below W5.heap.size W5 w' → w'.cell? ⟨M + 1, 0, none⟩ = some (.map (some M)) := fun w' h => ((below_step hW5 h).cell (p := ⟨M + 1, 0, none⟩) (by show M + 1 < wr.heap.size; omega)).trans hm1
          obtain ⟨kn, hkn⟩ : ∃ kn, kn = (f' x.at_.first).isSome := ⟨_, rfl⟩
          obtain ⟨m0, hm0⟩ : ∃ m0, m0 = (f' x.at_.first).getD 0 := ⟨_, rfl⟩
          have k3 : ∀ w', Below W5.heap.size W5 w' → (Instr.lookup 55 (.map (some M)) (.int .i64 x.at_.first) true).run Try.prog w' = .ok (.tuple #[.int .i64 m0, .bool kn]) w' := fun w' h => by
            rw [hkn, hm0]
            exact (HM.out.below (below_step hW5 h)).look_ok int_keys int_keys Try.underlying55 zero_int Hfi.out
          have HA' := Lib.hid (fun w' (h : Below W5.heap.size W5 w') => (⟨attrsR_ok.below HAt.out (below_step hW5 h) hFr, hFr.below (below_step hW5 h)⟩ : attrsR w' F _ x.at_ ∧ InF F w'))
          have Hkn := Lib.hid hkn
          have Hm0 := Lib.hid hm0
          have Hm1 := Lib.hid hm1
          clear l1 l2 l3 l4 hcj hv1 hkn hm0 hm1
          go_region_held3 (fun w' => Below W5.heap.size W5 w') (first | exact below_step (by assumption) hb1' | (repeat' (first | exact Below.refl _ _ | assumption | exact Below.size (by assumption) | refine Below.drew ?_ | refine Below.alloc ?_ ?_ _ | refine Below.setCell ?_ ?_ _ | (simp; done) | (simp; omega))))
            (first
              | (go_at_call 20; (with_reducible refine (attr_First _ F _ x.at_ (HA'.out _ ?_).1 (HA'.out _ ?_).2).mono ?_); assumption; assumption; rintro e w6 ⟨rfl, hb1'⟩))
          have hS : Below W5.heap.size W5 w6 := by assumption
          have hS6 := below_step hW5 hS
          have hA6 := hA5.below hS hA5.lt
          have hq := hS6.size
          have HST : Hid (leastOf xs (L.take (j + 1)) = if kn = false ∨ x.at_.med < m0 then putF f' x.at_.first x.at_.med else f') := by
            show _ = _
            rw [HT.out, HS.out, leastStep, ← Hf'.out, firstAt, medAt, HC.out, ← Hkn.out, ← Hm0.out]
          clear k1 k2 k3 hb1'
          by_cases hc : kn = false ∨ x.at_.med < m0
          · have hhc := Lib.hid hc
            have p1 : ∀ w' o, w6.grownBy w' (some M) → w'.cell? ⟨wr.heap.size, o, none⟩ = (#[.int .i64 x.at_.has, .int .i64 x.at_.origin, .slice B1 m1 d1, .int .u32 x.at_.nextHop, .int .i64 x.at_.med, .int .i64 x.at_.loc, .int .i64 x.at_.aggrAs, .int .u32 x.at_.aggrId, .slice B2 m2 d2, .slice B3 m3 d3] : Array Value)[o]? := fun w' o h => by
              rw [World.cell?_of_block (w := w6) (a := ⟨wr.heap.size, o, none⟩) (h.block wr.heap.size hA6.lt (by simp; omega))]
              exact hA6.cell o
            have p2 : ∀ w', w6.grownBy w' (some M) → w'.cell? ⟨M + 1, 0, none⟩ = some (.map (some M)) := fun w' h => by
              rw [World.cell?_of_block (w := w6) (a := ⟨M + 1, 0, none⟩) (h.block (M + 1) (by omega) (by simp))]
              exact (hS6.cell (p := ⟨M + 1, 0, none⟩) (by show M + 1 < wr.heap.size; omega)).trans Hm1.out
            have hput : ∀ w', ∃ w'', Below w6.heap.size w6 w' → ((Instr.mapUpdate 55 (.map (some M)) (.int .i64 x.at_.first) (.int .i64 x.at_.med)).run Try.prog w' = .ok () w'' ∧ IMap Try.prog 3 3 w'' M (N + 1) (putF f' x.at_.first x.at_.med) ∧ w'.grownBy w'' (some M)) := fun w' => by
              by_cases h : Below w6.heap.size w6 w'
              · obtain ⟨w'', h1⟩ := (HM.out.below (below_step hS6 h)).put int_keys int_keys Try.underlying55 Hfi.out (i64_mk (attrsR.fits HAt.out).med.1 (attrsR.fits HAt.out).med.2) (by simp only [maxLen]; omega)
                exact ⟨w'', fun _ => h1⟩
              · exact ⟨w', fun h' => absurd h' h⟩
            obtain ⟨upd, hupd⟩ := Classical.axiomOfChoice hput
            have Hupd := Lib.hid hupd
            have p3 : ∀ w', Below w6.heap.size w6 w' → (Instr.mapUpdate 55 (.map (some M)) (.int .i64 x.at_.first) (.int .i64 x.at_.med)).run Try.prog w' = .ok () (upd w') := fun w' h => (hupd w' h).1
            have HA6 := Lib.hid (fun w' (h : Below w6.heap.size w6 w') => HA'.out w' (below_step hS h))
            clear hput hupd
            have hcc : kn = false ∨ (kn = true ∧ x.at_.med < m0) := by
              cases kn
              · exact .inl rfl
              · rcases hc with h | h
                · cases h
                · exact .inr ⟨rfl, h⟩
            clear hc
            rcases hcc with hc | ⟨hc, hlm⟩
            all_goals
              subst hc
              have p0 := hA6.cell
              go_upto_region 18 with fail
              go_region_held3 (fun w' => w6.grownBy w' (some M)) (first | exact grownBy_step (grownBy_refl _ _) hS7 | exact grownBy_trans (by assumption) ((Hupd.out _ hS7).2.2) | exact grownBy_step (grownBy_refl _ _) (Below.refl _ _).drew)
                (first
                  | (go_at_call 20; (with_reducible refine (attr_First _ F _ x.at_ (HA6.out _ ?_).1 (HA6.out _ ?_).2).mono ?_); exact (Below.refl _ _).drew; exact (Below.refl _ _).drew; rintro e w7 ⟨rfl, hb7⟩; have hS7 : Below w6.heap.size w6 w7 := Below.trans (Below.refl _ _).drew hb7))
              have hM8 := (Hupd.out _ hS7).2.1
              have hG8 := grownBy_trans (grownBy_step (grownBy_step HG3.out hS6) hS7) (Hupd.out _ hS7).2.2
              clear p0 p1 p2 p3 hA6 hb7
              go_wp2_with fail
              go_roundw
              case rel => exact ⟨j + 1, N + 1, _, by omega, by omega, by go_num, by rw [HST.out, if_pos hhc.out], hM8, hG8⟩
              case measure => simp [intOf]; omega
          · have hhc := Lib.hid hc
            have hkt : kn = true := by
              cases kn
              · exact absurd (.inl rfl) hc
              · rfl
            have hlm : ¬ x.at_.med < m0 := fun h => hc (.inr h)
            have p1 := hA6.cell
            have hM6 := HM.out.below hS6
            have hG6 := grownBy_step HG3.out hS6
            clear hc
            subst hkt
            go_wp2_with fail
            go_roundw
            case rel => exact ⟨j + 1, N, _, by omega, by omega, by go_num, by rw [HST.out, if_neg hhc.out], hM6, hG6⟩
            case measure => simp [intOf]; omega
        · obtain rfl : ln = j := by omega
          have hfL : f' = leastOf xs L := by rw [Hf'.out, List.take_of_length_le (by rw [Hln.out]; omega)]
          have HfL := Lib.hid hfL
          have hownr := hown3.kept HG3.out (by simp [Value.ownBlock]; omega)
          have hkF : ∀ b, F b → wr.heap[b]? = w.heap[b]? := fun b hb => ((HG3.out).block b (by have := HFM.out b hb; omega) (by have := HFM.out b hb; simp; omega)).trans (hB3.block b (hF b hb))
          have hlr : listR 14 candR wr F [.slice (some ⟨b, off, none⟩) n c] xs := (listR_ok candR_ok).keep Hl.out hkF fun _ h => h
          have hFr : InF F wr := fun b hb => by have := HFM.out b hb; omega
          have hne4 : ∀ b, F b → b ≠ g4 := fun b hb e => by have := hF b hb; have := hW.size; omega
          have hPO : PredOk 22 (.pointer (some ⟨w.heap.size, 0, none⟩)) (.pointer (some ⟨M + 1, 0, none⟩)) wr g4 L (goneI xs (leastOf xs L)) := fun W' i hGW hiL => by
            obtain ⟨k, hk, rfl, _⟩ := leftTo_mem.1 (HLn.out ▸ hiL)
            rw [← HfL.out]
            refine best_closure1 W' F _ n c xs ((listR_ok candR_ok).keep hlr (fun b hb => hGW.block b (hFr b hb) (fun e => hne4 b hb (by cases e; rfl))) fun _ h => h) (hFr.mono hGW.size) w.heap.size (M + 1) M N f' ?_ ?_ (HM.out.block (hGW.block M (by omega) (by simp; omega))) k (by rw [Hn.out]; exact hk)
            · exact (World.cell?_of_block (a := ⟨w.heap.size, 0, none⟩) (hGW.block w.heap.size (by omega) (by simp; have := hW.size; omega))).trans hv1
            · exact (World.cell?_of_block (a := ⟨M + 1, 0, none⟩) (hGW.block (M + 1) (by omega) (by simp; omega))).trans hm1
          have HPO := Lib.hid hPO
          have Hownr := Lib.hid hownr
          have Hlr := Lib.hid hlr
          have Hne4 := Lib.hid hne4
          have Hv1 := Lib.hid hv1
          clear hPO hownr hlr hkF hne4 hfL hm1 hv1
          go_wp2_with fail
          refine (deleteFunc_int wr W.heap.size g4 ln c4 L Hln.out Hownr.out (by omega) _ _ _ HPO.out).mono ?_
          rintro e w8 ⟨m2, rfl, hown8, hG8⟩
          have hm2 : (stayI xs L).length = m2 := by have := hown8.1; rw [List.length_map, Nat.mul_one] at this; exact this
          have hm20 : 0 < m2 := by
            rw [← hm2]
            exact List.length_pos_iff.2 (stayI_ne (by intro h; rw [h] at Hln; have := Hln.out; simp at this; omega))
          have hm2l : m2 ≤ ln := by
            rw [← hm2, ← Hln.out]
            exact List.length_filter_le _ _
          have hown9 : w8.ownsRow W.heap.size 3 1 (.slice (some ⟨g4, 0, none⟩) m2 c4) m2 ((stayI xs L).map (Value.int .i64)) := hown8
          obtain ⟨T8, hblk8, _⟩ := ownsRow_blk hown9
          have hr8 : w8.rangeAt g4 0 ((stayI xs L).map (Value.int .i64)) := fun j v hv => by
            have := hblk8.range j v (by rw [List.getElem?_append_left (List.getElem?_eq_some_iff.1 hv).1]; exact hv)
            exact this
          have hlr8 : listR 14 candR w8 F [.slice (some ⟨b, off, none⟩) n c] xs := (listR_ok candR_ok).keep Hlr.out (fun b hb => hG8.block b (hFr b hb) (fun e => Hne4.out b hb (by cases e; rfl))) fun _ h => h
          have hv8 : w8.cell? ⟨w.heap.size, 0, none⟩ = some (.slice (some ⟨b, off, none⟩) n c) := (World.cell?_of_block (a := ⟨w.heap.size, 0, none⟩) (hG8.block w.heap.size (by omega) (by simp; have := hW.size; omega))).trans Hv1.out
          have hF8 : InF F w8 := hFr.mono hG8.size
          have hRO : RankOk 24 (.pointer (some ⟨w.heap.size, 0, none⟩)) w8 (stayI xs L) (rankI xs) := fun W' i k hBW hi hk => by
            obtain ⟨a, ha, rfl, _⟩ := leftTo_mem.1 (HLn.out ▸ (List.mem_filter.1 hi).1)
            obtain ⟨d, hd, rfl, _⟩ := leftTo_mem.1 (HLn.out ▸ (List.mem_filter.1 hk).1)
            exact best_closure2 W' F _ n c xs ((listR_ok candR_ok).below hlr8 hBW hF8) (hF8.below hBW) w.heap.size ((hBW.cell (p := ⟨w.heap.size, 0, none⟩) (World.block_lt_of_cell? w8 _ hv8)).trans hv8) a d (by rw [Hn.out]; exact ha) (by rw [Hn.out]; exact hd)
          have HRO := Lib.hid hRO
          have Hr8 := Lib.hid hr8
          have Hm2 := Lib.hid hm2
          clear hRO hr8 hlr8 hv8 hblk8 hown8 hown9 hm2
          go_wp2_with fail
          refine (minFunc_int w8 g4 m2 c4 (stayI xs L) Hm2.out Hr8.out hm20 (by omega) _ (rankI xs) 0 HRO.out).mono ?_
          rintro e w9 ⟨rfl, hb9⟩
          go_wp2_with fail
          go_ret
          refine ⟨ret_int ?_, ?_⟩
          · rw [bestI, if_neg (by intro h; have := Hn.out; rw [h] at this; simp at this; omega), ← Hf.out, ← HLn.out]
          · have hG9 := grownBy_step (grownBy_refl w8 g4) hb9
            have h38 : Below w.heap.size W3 wr := ⟨HG3.out.os, HG3.out.tape, HG3.out.output, HG3.out.size, fun k hk => HG3.out.block k (by omega) (by simp; omega)⟩
            have h89 : Below w.heap.size wr w9 := (grownBy_below (grownBy_trans hG8 hG9) (by have := hW.size; omega) (by omega))
            exact hB3.trans (h38.trans h89)
end Go.Proofs.Ytngfabnkgpidjaa
