/- The law ChooseLikes. -/
import Derived.Test.YtngfabnkgpidjaaLawTurns
import Derived.Test.YtngfabnkgpidjaaPlainLikes
import Derived.Test.YtngfabnkgpidjaaClone
namespace Go.Proofs.Ytngfabnkgpidjaa
open Go.RowKit
set_option linter.unusedVariables false

theorem law_plainR (w : World) (F : Nat → Prop) (cs : List Value) (x : Cand) (h : candR w F cs x) (hF : InF F w) (hs : x.at_.Small) (h0 : 0 ≤ x.at_.has) (r : RRoute) (hr : Hid (r = plainI x)) :
    Calls Try.prog 15 #[.agg cs.toArray] w fun e w' => e = .returned (.agg #[.int .i64 r.loc, .int .i64 r.hops, .int .i64 r.origin, .int .i64 r.first, .int .i64 r.med, .int .u32 r.id, .int .i64 r.peer]) ∧ Below w.heap.size w w' := by
  rw [hr.out]
  exact law_plain w F cs x h hF hs h0

theorem Groups.split {α : Type} {size : Nat} {R : Rep α} (ok : R.Ok size) {w : World} {F : Nat → Prop} : ∀ {cells : List Value} {xs : List α}, Groups R w F cells xs → ∀ {k : Nat} {x : α}, xs[k]? = some x →
    ∃ c1 cs c2, cells = c1 ++ cs ++ c2 ∧ Groups R w F c1 (xs.take k) ∧ R w F cs x ∧ Groups R w F c2 (xs.drop (k + 1)) ∧ c1.length = k * size
  | _, [], _, k, x, hx => by simp at hx
  | _, y :: r, ⟨cs, rest, he, hr, hg⟩, 0, x, hx => by
    simp at hx
    subst hx
    subst he
    exact ⟨[], cs, rest, by simp, rfl, hr, hg, by simp⟩
  | _, y :: r, ⟨cs, rest, he, hr, hg⟩, k + 1, x, hx => by
    subst he
    obtain ⟨c1, ds, c2, h1, h2, h3, h4, h5⟩ := Groups.split ok hg (k := k) (x := x) (by simpa using hx)
    subst h1
    exact ⟨cs ++ c1, ds, c2, by simp, ⟨cs, c1, rfl, hr, h2⟩, h3, h4, by rw [List.length_append, ok.len hr, h5, Nat.succ_mul]; omega⟩
theorem Groups.join {α : Type} {R : Rep α} {w : World} {F : Nat → Prop} {c1 cs c2 : List Value} {xs : List α} {k : Nat} {x : α} (h1 : Groups R w F c1 (xs.take k)) (h2 : R w F cs x) (h3 : Groups R w F c2 (xs.drop (k + 1))) (hk : k < xs.length) : Groups R w F (c1 ++ cs ++ c2) (xs.set k x) := by
  rw [List.set_eq_take_append_cons_drop, if_pos hk, List.append_assoc]
  exact Groups.append (show Groups R w F (cs ++ c2) (x :: xs.drop (k + 1)) from ⟨cs, c2, rfl, h2, h3⟩) h1
theorem mid_set (c1 m old m2 c2 vs : List Value) (hl : vs.length = old.length) :
    (c1 ++ (m ++ old ++ m2) ++ c2).take (c1.length + m.length) ++ vs ++ (c1 ++ (m ++ old ++ m2) ++ c2).drop (c1.length + m.length + vs.length) = c1 ++ (m ++ vs ++ m2) ++ c2 := by
  have e1 : c1 ++ (m ++ old ++ m2) ++ c2 = (c1 ++ m) ++ (old ++ (m2 ++ c2)) := by simp
  have e2 : c1.length + m.length = (c1 ++ m).length := by simp
  rw [e1, e2, List.take_left, hl, ← List.drop_drop, List.drop_left, List.drop_left]
  simp
theorem mid_one (c1 m c2 : List Value) (j : Nat) (u : Value) (hj : j < m.length) : (c1 ++ m ++ c2).set (c1.length + j) u = c1 ++ m.set j u ++ c2 := by
  rw [List.append_assoc, List.set_append_right _ _ (by omega), show c1.length + j - c1.length = j by omega, List.set_append_left _ _ hj, List.append_assoc]

def likesCells (x : Cand) (p c o : Value) : List Value := [.int .i64 x.peer, .int .u32 x.addr, .int .i64 x.len, .int .i64 x.at_.has, .int .i64 x.at_.origin, p, .int .u32 x.at_.nextHop, .int .i64 x.at_.med, .int .i64 x.at_.loc, .int .i64 x.at_.aggrAs, .int .u32 x.at_.aggrId, c, o, .int .u32 x.id]
/-- what the call has made so far of 'more' -/
theorem more_cells {w : World} {F : Nat → Prop} {p c o : Value} {x : Cand} (hA : attrsR w F [.int .i64 x.at_.has, .int .i64 x.at_.origin, p, .int .u32 x.at_.nextHop, .int .i64 x.at_.med, .int .i64 x.at_.loc, .int .i64 x.at_.aggrAs, .int .u32 x.at_.aggrId, c, o] x.at_) (hf : x.Fits) (h0 : 0 ≤ x.at_.has) :
    candR w F (likesCells (moreC x) p c o) (moreC x) := by
  have hfit := hA.fits1
  obtain ⟨p', c', o', he, h1, h2, h3, _⟩ := hA
  simp only [List.cons.injEq, and_true] at he
  obtain ⟨_, _, rfl, _, _, _, _, _, rfl, rfl⟩ := he
  have hs := orHas_spec h0 hfit.has.2
  refine ⟨[.int .i64 (orHas x.at_.has), .int .i64 x.at_.origin, p, .int .u32 x.at_.nextHop, .int .i64 x.at_.med, .int .i64 4294967295, .int .i64 x.at_.aggrAs, .int .u32 x.at_.aggrId, c, o], rfl, ⟨p, c, o, rfl, h1, h2, h3, ⟨⟨by have := hs.1; simp only [moreC, moreA]; omega, hs.2.1⟩, hfit.origin, hfit.nextHop, hfit.med, ⟨by simp [moreC, moreA], by simp [moreC, moreA]⟩, hfit.aggrAs, hfit.aggrId⟩⟩, ⟨hf.peer, hf.addr, hf.len, hf.id⟩⟩

theorem blk_mid {w : World} {g : Nat} {t : TypeId} {c1 m old m2 c2 : List Value} (h : Blk w g t (c1 ++ (m ++ old ++ m2) ++ c2).toArray) : w.rangeAt g (c1.length + m.length) old := fun j v hv => by
  have hj := (List.getElem?_eq_some_iff.1 hv).1
  have e : (c1 ++ (m ++ old ++ m2) ++ c2)[c1.length + m.length + j]? = old[j]? := by
    have e1 : c1 ++ (m ++ old ++ m2) ++ c2 = (c1 ++ m) ++ (old ++ (m2 ++ c2)) := by simp
    rw [e1, List.getElem?_append_right (by simp), List.getElem?_append_left (by simp; omega)]
    congr 1
    simp
  rw [h.cell, List.getElem?_toArray, e, hv]
theorem blk_put {w : World} {g o : Nat} {t : TypeId} {c1 m old m2 c2 : List Value} (h : Blk w g t (c1 ++ (m ++ old ++ m2) ++ c2).toArray) (ho : c1.length + m.length = o) (vs : List Value) (hl : vs.length = old.length) : Blk (w.setCells g o vs) g t (c1 ++ (m ++ vs ++ m2) ++ c2).toArray := by
  subst ho
  have := Blk.setCells vs (c1.length + m.length) h (by simp only [List.length_append]; omega)
  rwa [mid_set c1 m old m2 c2 vs hl] at this
theorem blk_there {w : World} {g : Nat} {t : TypeId} {cs : List Value} (h : Blk w g t cs.toArray) {o n : Nat} (hn : o + n ≤ cs.length) : w.there g o n := fun j hj =>
  ⟨by rw [h.cell, List.getElem?_toArray, List.getElem?_eq_getElem (by omega)]; rfl, h.free _⟩

set_option maxRecDepth 100000 in
set_option maxHeartbeats 16000000 in
theorem law_ChooseLikes (w : World) (F : Nat → Prop) (A : Option Addr) (n c : Nat) (xs : List Cand) (wh : Int) (hl : listR 14 candR w F [.slice A n c] xs) (hF : InF F w) (hok : ∀ x ∈ xs, candLt x) :
    Calls Try.prog 6 #[.slice A n c, .int .i64 wh] w fun e w' => e = .returned (.bool true) ∧ Below w.heap.size w w' := by
  have Hl := Lib.hid hl
  have hlen := hl.len.1
  have HF := Lib.hid hF
  have Hfit := Lib.hid (listR_fits hl)
  have HN := Lib.hid hlen
  have HOk := Lib.hid hok
  obtain ⟨ic, hic, hc0, hc1, hc2⟩ := info_parts cand_info
  clear hl hlen hF hok
  go_enter Try.func6, Try.ntmps6
  go_wp2_with fail
  refine (law_head w).mono ?_
  rintro e w1 ⟨rfl, hB1⟩
  go_wp2_with fail
  refine (law_right w1 F A n c xs ((listR_ok candR_ok).below Hl.out hB1 HF.out) (HF.out.below hB1)).mono ?_
  rintro e w2 ⟨rfl, hb2⟩
  have hB2 := below_step hB1 hb2
  cases hr : rightB xs
  · clear hr
    go_wp2_with fail
    go_ret
    exact ⟨rfl, hB2⟩
  obtain ⟨h12, hg, hfr⟩ := right_good hr Hfit.out
  have hn12 : n ≤ 12 := by have := HN.out; omega
  have hn : n ≤ 1048576 := by omega
  have HG := Lib.hid hg
  have HFR := Lib.hid hfr
  clear hr hg hfr h12
  by_cases h0 : n = 0
  · subst h0
    go_wp2_with fail
    go_ret
    exact ⟨rfl, hB2⟩
  have hz : ((n : Int) == 0) = false := beq_eq_false_iff_ne.2 (by omega)
  have hn0 : 0 < n := by omega
  clear h0
  obtain ⟨b, off, rfl, hFb⟩ : ∃ b off, A = some ⟨b, off, none⟩ ∧ F b := by
    obtain ⟨b, off, cs, h1, h2, _⟩ := Hl.out.at_ (k := 0) (x := xs[0]'(by rw [← HN.out]; exact hn0)) (List.getElem?_eq_getElem _)
    exact ⟨b, off, h1, h2⟩
  have hnc : n ≤ c := Hl.out.len.2.1
  have hbl := HF.out b hFb
  have hcell : ∀ i, i < n → ∃ (x : Cand) (A1 : Option Addr) (n1 c1 : Nat) (A2 : Option Addr) (n2 c2 : Nat) (A3 : Option Addr) (n3 c3 : Nat), xs[i]? = some x ∧ candR w F (likesCells x (.slice A1 n1 c1) (.slice A2 n2 c2) (.slice A3 n3 c3)) x ∧ w.rangeAt b (off + i * 14) (likesCells x (.slice A1 n1 c1) (.slice A2 n2 c2) (.slice A3 n3 c3)) := fun i hi => by
    obtain ⟨x, hx⟩ : ∃ x, xs[i]? = some x := ⟨_, List.getElem?_eq_getElem (by rw [← HN.out]; exact hi)⟩
    obtain ⟨b', off', cs, he, _, hR, hr⟩ := Hl.out.at_ hx
    obtain ⟨rfl, rfl⟩ : b = b' ∧ off = off' := by simp only [Option.some.injEq, Addr.mk.injEq] at he; exact ⟨he.1, he.2.1⟩
    obtain ⟨A1, n1, c1, A2, n2, c2, A3, n3, c3, rfl⟩ := hR.lit
    exact ⟨x, _, _, _, _, _, _, _, _, _, hx, hR, hr⟩
  have Hcell := Lib.hid hcell
  obtain ⟨bi, cb, hbe, hbx, hbest⟩ := best_not (xs := xs) (fun h => by have := HN.out; rw [h] at this; simp at this; omega)
  have hbn : bi < n := by rw [HN.out]; exact (List.getElem?_eq_some_iff.1 hbx).1
  have Hbest := Lib.hid hbest
  have hcall := best_of w2 F (some ⟨b, off, none⟩) n c xs ((listR_ok candR_ok).below Hl.out hB2 HF.out) (HF.out.below hB2) hn HG.out
  rw [hbe] at hcall
  have Hcall := Lib.hid hcall
  obtain ⟨x', D1, d1, e1, D2, d2, e2, D3, d3, e3, hx', hRb, hrb⟩ := hcell bi hbn
  obtain rfl : x' = cb := by rw [hbx] at hx'; cases hx'; rfl
  have hgb := HG.out x' (List.mem_of_getElem? hbx)
  have HGb := Lib.hid hgb
  have HRb := Lib.hid hRb
  have Hrb := Lib.hid hrb
  have hd1 : decide ((bi : Int) < 0) = false := decide_eq_false (by omega)
  have hd2 : decide (n ≤ bi) = false := decide_eq_false (by omega)
  have hbi0 : (0 : Int) ≤ (bi : Int) := by omega
  have hbi1 : (bi : Int) < (n : Int) := by omega
  clear hcell hbest hcall hx' hRb hrb hgb hbe hbx
  go_wp2_with fail
  refine Hcall.out.mono ?_
  rintro e w3 ⟨rfl, hb3⟩
  have hB3 := below_step hB2 hb3
  obtain ⟨rb, hrbe⟩ : ∃ rb, rb = plainI x' := ⟨_, rfl⟩
  have HRB := Lib.hid hrbe
  obtain ⟨l1, l2⟩ := cells_now (rangeAt_below Hrb.out hB3 hbl)
  simp only [likesCells] at l1 l2
  clear hrbe
  go_wp2_with fail
  refine (law_plainR _ F _ x' (candR_ok.below HRb.out hB3 HF.out) (HF.out.below hB3) HGb.out.small HGb.out.has rb HRB).mono ?_
  rintro e w4 ⟨rfl, hb4⟩
  have hB4 := below_step hB3 hb4
  clear l1 l2
  go_wp2_with fail
  obtain ⟨G, hG⟩ : ∃ G, G = w4.heap.size := ⟨_, rfl⟩
  obtain ⟨W5, hW5⟩ : ∃ W5, W5 = w4.alloc (.cells #[.int .i64 rb.loc, .int .i64 rb.hops, .int .i64 rb.origin, .int .i64 rb.first, .int .i64 rb.med, .int .u32 rb.id, .int .i64 rb.peer] 48) := ⟨_, rfl⟩
  have hkb : Blk W5 G 48 #[.int .i64 rb.loc, .int .i64 rb.hops, .int .i64 rb.origin, .int .i64 rb.first, .int .i64 rb.med, .int .u32 rb.id, .int .i64 rb.peer] := by rw [hW5, hG]; exact Blk.new _ _ _
  have hB5 : Below w.heap.size w W5 := by rw [hW5]; exact hB4.alloc hB4.size _
  rw [← hW5, ← hG]
  clear hG hW5 hB4 hb4
  go_loopw [41] (fun i wr => ∃ k : Nat, k ≤ n ∧ i = .int .i64 k ∧ Below W5.heap.size W5 wr) (fun i _ => n - (intOf i).toNat)
  case atStart => exact ⟨0, Nat.zero_le _, rfl, Below.refl _ _⟩
  case round =>
    obtain ⟨k, hk, rfl, hBr⟩ := hrel
    by_cases hlt : k < n
    · obtain ⟨x, A1, n1, c1, A2, n2, c2, A3, n3, c3, hx, hRx, hrx⟩ := Hcell.out k hlt
      have hBw := below_step hB5 hBr
      have HRx := Lib.hid hRx
      have HGx := Lib.hid (HG.out x (List.mem_of_getElem? hx))
      obtain ⟨l1, l2⟩ := cells_now (rangeAt_below hrx hBw hbl)
      simp only [likesCells] at l1 l2
      have hnb := Hbest.out x (List.mem_of_getElem? hx)
      obtain ⟨r, hr⟩ : ∃ r, r = plainI x := ⟨_, rfl⟩
      have HR := Lib.hid hr
      have hBa := hBw.alloc hBw.size (.cells (likesCells x (.slice A1 n1 c1) (.slice A2 n2 c2) (.slice A3 n3 c3)).toArray 35)
      have hg1 : decide (rb.loc < r.loc) = false := decide_eq_false (by rw [hr, HRB.out]; exact Int.not_lt.2 hnb.loc)
      have hloc : r.loc = rb.loc → r.hops < rb.hops → False := by rw [hr, HRB.out]; intro e h; have := hnb.hops e; simp only [plainI] at h; omega
      have hori : r.loc = rb.loc → r.hops = rb.hops → r.origin < rb.origin → False := by rw [hr, HRB.out]; intro e e2 h; have := hnb.origin e (by have e5 : (x.at_.hops : Int) = x'.at_.hops := e2; omega); simp only [plainI] at h; omega
      have hmed : r.loc = rb.loc → r.hops = rb.hops → r.origin = rb.origin → r.first = rb.first → r.med < rb.med → False := by rw [hr, HRB.out]; intro e e2 e3 e4 h; have := hnb.med e (by have e5 : (x.at_.hops : Int) = x'.at_.hops := e2; omega) e3 e4; simp only [plainI] at h; omega
      have Hloc := Lib.hid hloc
      have Hori := Lib.hid hori
      have Hmed := Lib.hid hmed
      have Hu : undef = Value.tuple #[] := rfl
      have hcb := (hkb.below hBr hkb.lt).cell
      have hgl := (hkb.below hBr hkb.lt).lt
      clear hrx hRx hx hnb hr hloc hori hmed
      go_wp2_with fail
      refine (law_plainR _ F _ x (candR_ok.below HRx.out hBa HF.out) (HF.out.below hBa) HGx.out.small HGx.out.has r HR).mono ?_
      rintro e w6 ⟨rfl, hb6⟩
      have hB6 := below_step ((Below.refl wr.heap.size wr).alloc (Nat.le_refl _) _) hb6
      have hkb6 := (hkb.below hBr hkb.lt).below hB6 hgl
      have hcb6 := hkb6.cell
      have hgl6 := hkb6.lt
      clear l1 l2 hcb hb6
      have hBe := (below_step hBr hB6).alloc (below_step hBr hB6).size (.cells #[.int .i64 r.loc, .int .i64 r.hops, .int .i64 r.origin, .int .i64 r.first, .int .i64 r.med, .int .u32 r.id, .int .i64 r.peer] 48)
      cases he : (r.loc == rb.loc)
      · go_wp2_with fail
        simp only [← Hu]
        clear Hu
        go_roundw
        case rel => exact ⟨k + 1, by omega, by go_num, hBe⟩
        case measure => simp [intOf]; omega
      have hel : r.loc = rb.loc := by simpa using he
      have Hel := Lib.hid hel
      have hg2 : decide (r.hops < rb.hops) = false := decide_eq_false (Hloc.out hel)
      clear hel
      cases hh : (r.hops == rb.hops)
      · go_wp2_with fail
        simp only [← Hu]
        clear Hu
        go_roundw
        case rel => exact ⟨k + 1, by omega, by go_num, hBe⟩
        case measure => simp [intOf]; omega
      have heh : r.hops = rb.hops := by simpa using hh
      have Heh := Lib.hid heh
      have hg3 : decide (r.origin < rb.origin) = false := decide_eq_false (Hori.out Hel.out heh)
      clear heh
      cases ho : (r.origin == rb.origin)
      · go_wp2_with fail
        simp only [← Hu]
        clear Hu
        go_roundw
        case rel => exact ⟨k + 1, by omega, by go_num, hBe⟩
        case measure => simp [intOf]; omega
      have heo : r.origin = rb.origin := by simpa using ho
      have Heo := Lib.hid heo
      clear heo
      cases hf : (r.first == rb.first)
      · go_wp2_with fail
        simp only [← Hu]
        clear Hu
        go_roundw
        case rel => exact ⟨k + 1, by omega, by go_num, hBe⟩
        case measure => simp [intOf]; omega
      have hef : r.first = rb.first := by simpa using hf
      have hg4 : decide (r.med < rb.med) = false := decide_eq_false (Hmed.out Hel.out Heh.out Heo.out hef)
      clear hef
      go_wp2_with fail
      simp only [← Hu]
      clear Hu
      go_roundw
      case rel => exact ⟨k + 1, by omega, by go_num, hBe⟩
      case measure => simp [intOf]; omega
    · obtain rfl : n = k := by omega
      obtain ⟨b0, hb01, hb02⟩ := and1023 wh
      obtain ⟨k, hkr⟩ : ∃ k, k = b0 % n := ⟨_, rfl⟩
      have hkl : k < n := by rw [hkr]; exact Nat.mod_lt _ hn0
      have hre : ((b0 : Int) % (n : Int)) = (k : Int) := by omega
      have Hre := Lib.hid hre
      have hb0n : (0 : Int) ≤ (b0 : Int) := by omega
      have hBw := below_step hB5 hBr
      clear hkr hre
      have Hbw := Lib.hid ((Below.refl wr.heap.size wr).alloc (Nat.le_refl _) (.cells #[] 35))
      have HL := Lib.hid ((listR_ok candR_ok).below Hl.out (below_step hBw Hbw.out) HF.out)
      have hFm : InF F (wr.alloc (.cells #[] 35)) := HF.out.below (below_step hBw Hbw.out)
      have h63 : Hid (([] : List Cand).length + n ≤ 9223372036854775807) := by show _ ≤ _; simp; omega
      have h64 : Hid ((([] : List Cand).length + n) * 160 ≤ 140737488355328) := by show _ ≤ _; simp; omega
      go_wp2_with (at_builtin; refine wpList_pushA _ rfl (.tmp 126) (.tmp 127) 40 rfl candR_ok wr.heap.size 35 ic _ 160 Try.underlying40 hic hc0 hc1 hc2 rfl (by decide) F _ [] rfl (ownR.made wr _ (Nat.le_refl _) (HF.out.below hBw)) (some ⟨b, off, none⟩) n c xs rfl HL.out hFm h63.out h64.out Hbw.out.size ?_)
      intro v w7 hv hg7 _
      rw [Hre.out]
      obtain ⟨cells, hown, hgr, hnF⟩ := hv
      obtain ⟨g, cap, rfl, hgb, hgl⟩ := own_form hown (by rw [← HN.out]; simpa using hn0)
      obtain ⟨T, hblk, _, hcap1, hcap2, hclen, _⟩ := ownsRow_blk hown
      have hnx : xs.length = n := HN.out.symm
      rw [hnx] at hown hcap1 ⊢
      have hbase : w.heap.size ≤ g := Nat.le_trans hBw.size hgb
      have hnFg : ¬ F g := hnF g rfl
      obtain ⟨x, hx⟩ : ∃ x, xs[k]? = some x := ⟨_, List.getElem?_eq_getElem (by rw [← HN.out]; exact hkl)⟩
      obtain ⟨k1, cs, k2, rfl, hg1, ⟨ac, rfl, hA, hfx⟩, hg2, hk1⟩ := hgr.split candR_ok hx
      have hB7 : Below w.heap.size w w7 := (below_step hBw Hbw.out).grown hg7 (below_step hBw Hbw.out).size fun g' he => by cases he; exact hBw.size
      have hF7 := HF.out.below hB7
      rw [List.append_assoc] at hblk hclen
      obtain ⟨A1, n1, c1, A2, n2, c2, A3, n3, c3, rfl⟩ := hA.lit
      have hrg := blk_mid hblk
      rw [hk1] at hrg
      have HA := Lib.hid hA
      have Hblk := Lib.hid hblk
      have HX := Lib.hid hx
      have Hg1 := Lib.hid hg1
      have Hg2 := Lib.hid hg2
      have Hk1 := Lib.hid hk1
      have Hclen := Lib.hid hclen
      have Hfx := Lib.hid hfx
      have hkn0 : (0 : Int) ≤ (k : Int) := by omega
      have hkn1 : (k : Int) < (n : Int) := by omega
      have Hrg := Lib.hid hrg
      have Hcap2 := Lib.hid hcap2
      clear hown hcap2 hnF hnx hA hblk hx hg1 hg2 hk1 hclen hfx hg7 hrg hgr
      go_wp2_with (refine wpList_load_mid rfl 31 (.tmp 135) rfl g (k * 14 + 3) rfl _ _ Hrg.out Try.underlying31 rfl (by kernel_rfl) ?_)
      refine (attr_Clone w7 F _ x.at_ HA.out hF7 (HOk.out x (List.mem_of_getElem? HX.out))).mono ?_
      rintro e w8 ⟨cs8, F8, rfl, hA8, hgr8⟩
      obtain ⟨B1, m1, d1, B2, m2, d2, B3, m3, d3, rfl⟩ := hA8.lit
      have hblk8 := Hblk.out.below hgr8.below Hblk.out.lt
      have hth : w8.there g (k * 14 + 3) 10 := blk_there hblk8 (by
        have h1 := Hk1.out
        simp only [List.length_append, List.length_cons, List.length_nil, h1]
        omega)
      have hblk10 := blk_put (o := k * 14 + 3) hblk8 (by rw [Hk1.out]; rfl) [.int .i64 x.at_.has, .int .i64 x.at_.origin, .slice B1 m1 d1, .int .u32 x.at_.nextHop, .int .i64 x.at_.med, .int .i64 x.at_.loc, .int .i64 x.at_.aggrAs, .int .u32 x.at_.aggrId, .slice B2 m2 d2, .slice B3 m3 d3] rfl
      have hgs := grownBy_setCells g [.int .i64 x.at_.has, .int .i64 x.at_.origin, .slice B1 m1 d1, .int .u32 x.at_.nextHop, .int .i64 x.at_.med, .int .i64 x.at_.loc, .int .i64 x.at_.aggrAs, .int .u32 x.at_.aggrId, .slice B2 m2 d2, .slice B3 m3 d3] w8 (k * 14 + 3)
      have hsz8 := hgr8.below.size
      obtain ⟨X, hX⟩ : ∃ X, X = w8.setCells g (k * 14 + 3) [.int .i64 x.at_.has, .int .i64 x.at_.origin, .slice B1 m1 d1, .int .u32 x.at_.nextHop, .int .i64 x.at_.med, .int .i64 x.at_.loc, .int .i64 x.at_.aggrAs, .int .u32 x.at_.aggrId, .slice B2 m2 d2, .slice B3 m3 d3] := ⟨_, rfl⟩
      rw [← hX] at hblk10 hgs
      have HXe := Lib.hid hX
      have Hth := Lib.hid hth
      have HA8 := Lib.hid hA8
      have Hgr8 := Lib.hid hgr8
      have Hgs := Lib.hid hgs
      have Hblk10 := Lib.hid hblk10
      have hrX := blk_mid hblk10
      rw [Hk1.out] at hrX
      have x0 : X.cell? ⟨g, k * 14 + 3, none⟩ = some (.int .i64 x.at_.has) := hrX 0 _ rfl
      have x5 : X.cell? ⟨g, k * 14 + 3 + 5, none⟩ = some (.int .i64 x.at_.loc) := hrX 5 _ rfl
      have f0 := hblk10.free (k * 14 + 3)
      have f5 := hblk10.free (k * 14 + 3 + 5)
      clear hblk8 hblk10 hX hgs hA8 hgr8 hth hrX
      go_wp2_with (refine wpList_store_mid rfl 31 (.tmp 140) (.tmp 137) rfl g (k * 14 + 3) _ rfl rfl Hth.out (by kernel_rfl) (all_oneCell_toArray (attrsR_ok.one HA8.out)) ?_; rw [← HXe.out])
      obtain ⟨W9, hW9⟩ : ∃ W9, W9 = (X.setCell ⟨g, k * 14 + 3, none⟩ (.int .i64 (bits .or .i64 x.at_.has 32))).setCell ⟨g, k * 14 + 3 + 5, none⟩ (.int .i64 4294967295) := ⟨_, rfl⟩
      have hblk9 : Blk W9 g 35 ((k1 ++ likesCells (moreC x) (.slice B1 m1 d1) (.slice B2 m2 d2) (.slice B3 m3 d3) ++ k2) ++ T).toArray := by
        have h1 := (Hblk10.out.set_ (k * 14 + 3) (.int .i64 (bits .or .i64 x.at_.has 32)))
        rw [← Hk1.out, mid_one _ _ _ 3 _ (by simp)] at h1
        have h2 := h1.set_ (k1.length + 8) (.int .i64 4294967295)
        rw [mid_one _ _ _ 8 _ (by simp), Hk1.out] at h2
        rw [hW9, List.append_assoc]
        exact h2
      have hg9 : w8.grownBy W9 (some g) := by
        rw [hW9]
        exact grownBy_trans (grownBy_trans Hgs.out (grownBy_setCell _ _ _ _)) (grownBy_setCell _ _ _ _)
      have hnF8 : ¬ F8 g := fun h => by
        rcases Hgr8.out.fresh g h with h1 | h1
        · exact hnFg h1
        · omega
      have hk8 : ∀ b, F8 b → W9.heap[b]? = w8.heap[b]? := fun b hb => hg9.block b (Hgr8.out.lt b hb) (fun e => hnF8 (by cases e; exact hb))
      have hk7 : ∀ b, F b → W9.heap[b]? = w7.heap[b]? := fun b hb => (hk8 b (Hgr8.out.sub b hb)).trans (Hgr8.out.below.block b (hF7 b hb))
      have hgood : ∀ y ∈ xs.set k (moreC x), y.Good := fun y hy => by
        rcases List.mem_or_eq_of_mem_set hy with h1 | h1
        · exact HG.out y h1
        · rw [h1]
          have hh : x.at_.has ≤ 9223372036854775807 := HA.out.fits1.has.2
          exact moreC_good (HG.out x (List.mem_of_getElem? HX.out)) hh
      have hown9 : ownR 35 14 candR W9 F8 wr.heap.size (.slice (some ⟨g, 0, none⟩) n cap) (xs.set k (moreC x)) := by
        have hgs9 : Groups candR W9 F8 (k1 ++ likesCells (moreC x) (.slice B1 m1 d1) (.slice B2 m2 d2) (.slice B3 m3 d3) ++ k2) (xs.set k (moreC x)) :=
          Groups.join (Hg1.out.keep candR_ok hk7 Hgr8.out.sub) (more_cells (attrsR_ok.keep HA8.out hk8 fun _ h => h) Hfx.out (HG.out x (List.mem_of_getElem? HX.out)).has) (Hg2.out.keep candR_ok hk7 Hgr8.out.sub) (by rw [← HN.out]; exact hkl)
        have hls : (xs.set k (moreC x)).length = n := by rw [List.length_set]; exact HN.out.symm
        refine ⟨_, ?_, hgs9, fun g' he hf => by cases he; exact hnF8 hf⟩
        have hlc := hgs9.length candR_ok
        rw [hls] at hlc ⊢
        refine blk_ownsRow hblk9 hgb hcap1 Hcap2.out ?_ hlc
        have h1 := Hclen.out
        simp only [List.length_append, likesCells, List.length_cons, List.length_nil] at h1 ⊢
        omega
      have hin8 : InF F8 W9 := Hgr8.out.lt.mono hg9.size
      have hB9 : Below w.heap.size w W9 := (below_step hB7 Hgr8.out.below).trans (grownBy_below hg9 hbase (below_step hB7 Hgr8.out.below).size)
      have Hbo := Lib.hid fun Wz hWz => best_own W9 Wz F8 _ _ _ hown9 hin8 hWz (by rw [List.length_set, ← HN.out]; omega) hgood
      rw [← hW9]
      clear hW9 hblk9 hg9 hk8 hk7 hgood hown9 hnF8 x0 x5 f0 f5 hin8
      go_loopw [161] (fun i wr => ∃ j : Nat, j ≤ n ∧ i = .int .i64 j ∧ Hid (∀ (i : Nat) (y : Cand), xs[i]? = some y → i < j → i ≠ k → y.at_.likes ≠ 4294967295) ∧ Below W9.heap.size W9 wr) (fun i _ => n - (intOf i).toNat)
      case atStart => exact ⟨0, Nat.zero_le _, rfl, Lib.hid (fun i y _ h => by omega), Below.refl _ _⟩
      case round =>
        obtain ⟨j, hj, rfl, HT, hBz⟩ := hrel
        by_cases hlt : j < n
        · obtain ⟨y, P1, p1, q1, P2, p2, q2, P3, p3, q3, hy, hRy, hry⟩ := Hcell.out j hlt
          have hBw' := below_step hB9 hBz
          have HRy := Lib.hid hRy
          have HGy := Lib.hid (HG.out y (List.mem_of_getElem? hy))
          obtain ⟨l1, l2⟩ := cells_now (rangeAt_below hry hBw' hbl)
          simp only [likesCells] at l1 l2
          have Hy := Lib.hid hy
          have hBa := hBw'.alloc hBw'.size (.cells (likesCells y (.slice P1 p1 q1) (.slice P2 p2 q2) (.slice P3 p3 q3)).toArray 35)
          have Hu : undef = Value.tuple #[] := rfl
          have hfd : ∀ (x0 x1 x2 x3 x4 x5 x6 : Value) (w : World), (Instr.field 48 (.agg #[x0, x1, x2, x3, x4, x5, x6]) 0).run Try.prog w = .ok x0 w := fun _ _ _ _ _ _ _ _ => by kernel_rfl
          have hBr' := hBz.alloc hBz.size (.cells (likesCells y (.slice P1 p1 q1) (.slice P2 p2 q2) (.slice P3 p3 q3)).toArray 35)
          clear hy hRy hry
          by_cases hjk : j = k
          · subst hjk
            have HT2 := Lib.hid (show ∀ (i : Nat) (z : Cand), xs[i]? = some z → i < j + 1 → i ≠ j → z.at_.likes ≠ 4294967295 from fun i z hz hi hne => HT.out i z hz (by omega) hne)
            go_wp2_with fail
            clear Hu
            go_roundw
            case rel => exact ⟨j + 1, by omega, by go_num, HT2, hBr'⟩
            case measure => simp [intOf]; omega
          · have hne : ((j : Int) != (k : Int)) = true := by rw [bne_iff_ne]; omega
            obtain ⟨r, hr⟩ : ∃ r, r = plainI y := ⟨_, rfl⟩
            have HR := Lib.hid hr
            clear hr
            have HJ := Lib.hid hjk
            clear hjk
            cases he : (r.loc == 4294967295)
            · have HT2 := Lib.hid (show ∀ (i : Nat) (z : Cand), xs[i]? = some z → i < j + 1 → i ≠ k → z.at_.likes ≠ 4294967295 from fun i z hz hi hne => by
                by_cases hij : i = j
                · subst hij
                  have h1 := Hy.out
                  rw [hz] at h1
                  cases h1
                  have h2 : r.loc ≠ 4294967295 := by simpa using he
                  rw [HR.out] at h2
                  exact h2
                · exact HT.out i z hz (by omega) hne)
              go_wp2_with fail
              refine (law_plainR _ F _ y (candR_ok.below HRy.out hBa HF.out) (HF.out.below hBa) HGy.out.small HGy.out.has r HR).mono ?_
              rintro e w10 ⟨rfl, hb10⟩
              go_wp2_with fail
              simp only [← Hu]
              clear Hu
              go_roundw
              case rel => exact ⟨j + 1, by omega, by go_num, HT2, below_step hBr' hb10⟩
              case measure => simp [intOf]; omega
            · go_wp2_with fail
              refine (law_plainR _ F _ y (candR_ok.below HRy.out hBa HF.out) (HF.out.below hBa) HGy.out.small HGy.out.has r HR).mono ?_
              rintro e w10 ⟨rfl, hb10⟩
              go_wp2_with fail
              simp only [← Hu]
              clear Hu
              go_ret
              exact ⟨rfl, below_step hBa hb10⟩
        · obtain rfl : n = j := by omega
          have hbm : bestI (xs.set k (moreC x)) = (k : Int) := likes_more (by rw [← HN.out]; exact hkl) (moreC_likes (HG.out x (List.mem_of_getElem? HX.out)).has HA.out.fits1.has.2) (fun i y hy hne => HT.out i y hy (by rw [HN.out]; exact (List.getElem?_eq_some_iff.1 hy).1) hne)
            (fun y hy => (HFR.out _ (List.mem_map.2 ⟨y, hy, rfl⟩)).loc.2)
          have hfin := Hbo.out wr hBz
          rw [hbm] at hfin
          have Hfin := Lib.hid hfin
          have hkk : ((k : Int) == (k : Int)) = true := by simp
          clear hbm hfin
          go_wp2_with fail
          refine Hfin.out.mono ?_
          rintro e w11 ⟨rfl, hb11⟩
          go_wp2_with fail
          go_ret
          exact ⟨rfl, below_step (below_step hB9 hBz) hb11⟩
end Go.Proofs.Ytngfabnkgpidjaa
