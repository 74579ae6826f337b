/- The law ChooseTurns. -/
import Derived.Test.YtngfabnkgpidjaaLib2
import Derived.Test.YtngfabnkgpidjaaOrderB
import Derived.Test.YtngfabnkgpidjaaPlainWin
import Derived.Test.YtngfabnkgpidjaaLawBest
import Derived.BigQuiet
import Derived.Deep.QuietTactic
namespace Go.Proofs.Ytngfabnkgpidjaa
open Go.RowKit
set_option linter.unusedVariables false

def alikeC (x y : Cand) : Prop := x.id = y.id ∧ x.peer = y.peer
/-- of the first i no two are alike, and of the next none of the first k is like it -/
def apartTo (xs : List Cand) (i k : Nat) : Prop := ∀ (a b : Nat) (x y : Cand), xs[a]? = some x → xs[b]? = some y → b < a → (a < i ∨ (a = i ∧ b < k)) → ¬ alikeC x y
theorem apartTo.next {xs : List Cand} {i k : Nat} {x y : Cand} (h : apartTo xs i k) (hx : xs[i]? = some x) (hy : xs[k]? = some y) (hn : ¬ alikeC x y) : apartTo xs i (k + 1) := fun a b x' y' ha hb hlt hc => by
  by_cases he : a = i ∧ b = k
  · obtain ⟨rfl, rfl⟩ := he
    rw [hx] at ha
    rw [hy] at hb
    cases ha
    cases hb
    exact hn
  · exact h a b x' y' ha hb hlt (by omega)
theorem apartTo.row {xs : List Cand} {i : Nat} (h : apartTo xs i i) : apartTo xs (i + 1) 0 := fun a b x y ha hb hlt hc => h a b x y ha hb hlt (by omega)
theorem apartTo.all {xs : List Cand} (h : apartTo xs xs.length 0) : apartL xs := fun i k x y hi hk h1 h2 => by
  rcases Nat.lt_trichotomy i k with hlt | he | hlt
  · exact absurd ⟨h1.symm, h2.symm⟩ (h k i y x hk hi hlt (.inl (List.getElem?_eq_some_iff.1 hk).1))
  · exact he
  · exact absurd ⟨h1, h2⟩ (h i k x y hi hk hlt (.inl (List.getElem?_eq_some_iff.1 hi).1))
/-- a candidate's cells that are read here -/
theorem cand_two {w : World} {F : Nat → Prop} {cs : List Value} {x : Cand} (h : candR w F cs x) {b o : Nat} (hr : w.rangeAt b o cs) : w.cell? ⟨b, o, none⟩ = some (.int .i64 x.peer) ∧ w.cell? ⟨b, o + 13, none⟩ = some (.int .u32 x.id) := by
  obtain ⟨A1, n1, c1, A2, n2, c2, A3, n3, c3, rfl⟩ := h.lit
  exact ⟨hr 0 _ rfl, hr 13 _ rfl⟩

/-- Best of a slice of the call's own -/
theorem best_own (w W : World) (F : Nat → Prop) (base : Nat) (v : Value) (ys : List Cand) (ho : ownR 35 14 candR w F base v ys) (hF : InF F w) (hb : Below w.heap.size w W) (hn : ys.length ≤ 1048576) (hg : ∀ y ∈ ys, y.Good) :
    Calls Try.prog 11 #[v] W fun e w' => e = .returned (.int .i64 (bestI ys)) ∧ Below W.heap.size W w' := by
  have h1 := ho.below candR_ok hb hF
  have h2 := h1.freeze candR_ok
  obtain ⟨A, c, rfl⟩ := h1.form
  exact best_of W _ A ys.length c ys h2 (fun b hb' => by
    rcases hb' with h | h
    · exact hF.below hb b h
    · exact (h1.lt b h).2) hn hg

set_option maxHeartbeats 8000000 in
theorem law_ChooseTurns (w : World) (F : Nat → Prop) (A : Option Addr) (n c : Nat) (xs : List Cand) (by_ : Int) (hl : listR 14 candR w F [.slice A n c] xs) (hF : InF F w) :
    Calls Try.prog 5 #[.slice A n c, .int .i64 by_] w fun e w' => e = .returned (.bool true) ∧ Below w.heap.size w w' := by
  have Hl := Lib.hid hl
  have hlen := hl.len.1
  have HF := Lib.hid hF
  have Hfit := Lib.hid (listR_fits hl)
  have HN := Lib.hid hlen
  obtain ⟨ic, hic, hc0, hc1, hc2⟩ := info_parts cand_info
  clear hl hlen hF
  go_enter Try.func5, Try.ntmps5
  go_wp2_with fail
  refine (law_head w).mono ?_
  rintro e w1 ⟨rfl, hB1⟩
  go_wp2_with fail
  refine (law_right w1 F A n c xs ((listR_ok candR_ok).below Hl.out hB1 HF.out) (HF.out.below hB1)).mono ?_
  rintro e w2 ⟨rfl, hb2⟩
  have hB2 := below_step hB1 hb2
  cases hr : rightB xs
  · clear hr
    go_wp2_with fail
    go_ret
    exact ⟨rfl, hB2⟩
  obtain ⟨h12, hg, hfr⟩ := right_good hr Hfit.out
  have hn12 : n ≤ 12 := by have := HN.out; omega
  have hn : n ≤ 1048576 := by omega
  have HG := Lib.hid hg
  clear hr hg hfr h12
  by_cases h0 : n = 0
  · subst h0
    go_wp2_with fail
    go_ret
    exact ⟨rfl, hB2⟩
  have hz : ((n : Int) == 0) = false := beq_eq_false_iff_ne.2 (by omega)
  have hn0 : 0 < n := by omega
  clear h0
  obtain ⟨b, off, rfl, hFb⟩ : ∃ b off, A = some ⟨b, off, none⟩ ∧ F b := by
    obtain ⟨b, off, cs, h1, h2, _⟩ := Hl.out.at_ (k := 0) (x := xs[0]'(by rw [← HN.out]; exact hn0)) (List.getElem?_eq_getElem _)
    exact ⟨b, off, h1, h2⟩
  have hnc : n ≤ c := Hl.out.len.2.1
  have hcm : c ≤ 9223372036854775807 := by have := Hl.out.len.2.2; unfold maxLen at this; omega
  have hbl := HF.out b hFb
  have hcell : ∀ i, i < n → ∃ x, xs[i]? = some x ∧ w.cell? ⟨b, off + i * 14, none⟩ = some (.int .i64 x.peer) ∧ w.cell? ⟨b, off + i * 14 + 13, none⟩ = some (.int .u32 x.id) := fun i hi => by
    obtain ⟨x, hx⟩ : ∃ x, xs[i]? = some x := ⟨_, List.getElem?_eq_getElem (by rw [← HN.out]; exact hi)⟩
    obtain ⟨b', off', cs, he, _, hR, hr⟩ := Hl.out.at_ hx
    obtain ⟨rfl, rfl⟩ : b = b' ∧ off = off' := by simp only [Option.some.injEq, Addr.mk.injEq] at he; exact ⟨he.1, he.2.1⟩
    exact ⟨x, hx, cand_two hR hr⟩
  have Hcell := Lib.hid hcell
  clear hcell
  go_wp2_with fail
  go_loopw [25] (fun i wr => ∃ k : Nat, k ≤ n ∧ i = .int .i64 k ∧ Hid (apartTo xs k 0) ∧ Below w.heap.size w wr) (fun i _ => n - (intOf i).toNat)
  case atStart => exact ⟨0, Nat.zero_le _, rfl, Lib.hid (fun a b x y _ _ _ h => by omega), hB2⟩
  case round =>
    obtain ⟨i, hi, rfl, HA, hB⟩ := hrel
    by_cases hlt : i < n
    · have hi0 : (0 : Int) ≤ (i : Int) := by omega
      have hi1 : (i : Int) < (n : Int) := by omega
      obtain ⟨x, hx, hxp, hxi⟩ := Hcell.out i hlt
      have Hx := Lib.hid hx
      have Hxp := Lib.hid hxp
      have Hxi := Lib.hid hxi
      clear hx hxp hxi
      have hic2 : i ≤ c := by omega
      go_wp2_with fail
      obtain ⟨wo, hwo⟩ : ∃ wo : World, wo = wr := ⟨_, rfl⟩
      subst hwo
      go_loopw [32] (fun j wi => ∃ k : Nat, k ≤ i ∧ j = .int .i64 k ∧ Hid (apartTo xs i k) ∧ Below w.heap.size w wi) (fun j _ => i - (intOf j).toNat)
      case atStart => exact ⟨0, Nat.zero_le _, rfl, HA, hB⟩
      case round =>
        obtain ⟨k, hk, rfl, HA2, hBi⟩ := hrel
        by_cases hlk : k < i
        · have hk0 : (0 : Int) ≤ (k : Int) := by omega
          have hk1 : (k : Int) < (n : Int) := by omega
          obtain ⟨y, hy, hyp, hyi⟩ := Hcell.out k (by omega)
          have q1 := (hBi.cell (p := ⟨b, off + i * 14, none⟩) hbl).trans Hxp.out
          have q2 := (hBi.cell (p := ⟨b, off + i * 14 + 13, none⟩) hbl).trans Hxi.out
          have q3 := (hBi.cell (p := ⟨b, off + k * 14, none⟩) hbl).trans hyp
          have q4 := (hBi.cell (p := ⟨b, off + k * 14 + 13, none⟩) hbl).trans hyi
          have Hy := Lib.hid hy
          clear hy hyp hyi
          cases he : (x.id == y.id)
          · have Hne := Lib.hid (show ¬ alikeC x y from fun h => by have := h.1; simp at he; exact he this)
            go_wp2_with fail
            go_quiet (fail)
            go_wp2_with fail
            go_roundw
            case rel => exact ⟨k + 1, by omega, by go_num, Lib.hid (HA2.out.next Hx.out Hy.out Hne.out), below_dn2 hBi _⟩
            case measure => simp [intOf]; omega
          · cases hp : (x.peer == y.peer)
            · have Hne := Lib.hid (show ¬ alikeC x y from fun h => by have := h.2; simp at hp; exact hp this)
              go_wp2_with fail
              go_quiet (fail)
              go_wp2_with fail
              go_roundw
              case rel => exact ⟨k + 1, by omega, by go_num, Lib.hid (HA2.out.next Hx.out Hy.out Hne.out), below_dn2 hBi _⟩
              case measure => simp [intOf]; omega
            · go_wp2_with fail
              go_quiet (fail)
              go_wp2_with fail
              go_ret
              exact ⟨rfl, below_dn2 hBi _⟩
        · obtain rfl : i = k := by omega
          go_wp2_with fail
          go_roundw
          case rel => exact ⟨i + 1, by omega, by go_num, Lib.hid HA2.out.row, hBi⟩
          case measure => simp [intOf]; omega
    · obtain rfl : n = i := by omega
      have hap : apartL xs := by
        have := HA.out
        rw [show n = xs.length from HN.out] at this
        exact this.all
      have Hap := Lib.hid hap
      obtain ⟨b0, hb01, hb02⟩ := and1023 by_
      obtain ⟨r, hr⟩ : ∃ r, r = b0 % n := ⟨_, rfl⟩
      have hrl : r < n := by rw [hr]; exact Nat.mod_lt _ hn0
      have hre : ((b0 : Int) % (n : Int)) = (r : Int) := by omega
      have Hre := Lib.hid hre
      have hb0n : (0 : Int) ≤ (b0 : Int) := by omega
      clear hap hr hre HA
      go_wp2_with fail
      rw [Hre.out]
      have hcr : ¬ c = r := by omega
      have hrc : r ≤ c := by omega
      have hr0 : (0 : Int) ≤ (r : Int) := by omega
      have hr1 : (r : Int) ≤ (n : Int) := by omega
      have hr2 : (r : Int) ≤ (c : Int) := by omega
      have hG : ∀ (i j : Nat) (hij : i ≤ j) (hj : j ≤ n), ∃ news, ∀ W, Below w.heap.size w W → Groups candR W F news ((xs.take j).drop i) ∧ ∀ t u, news[t]? = some u → W.cell? (Addr.add ⟨b, off + i * 14, none⟩ t) = some u := fun i j hij hj => by
        obtain ⟨news, h1, h2⟩ := (Hl.out.part hij hj).cells candR_ok
        exact ⟨news, fun W hW => ⟨h1.keep candR_ok (fun b hb => hW.block b (HF.out b hb)) fun _ h => h, news_of_range (rangeAt_below h2 hW hbl)⟩⟩
      obtain ⟨new1, hn1⟩ := hG r n (by omega) (Nat.le_refl _)
      obtain ⟨new2, hn2⟩ := hG 0 r (by omega) (by omega)
      rw [Nat.zero_mul, Nat.add_zero, List.drop_zero] at hn2
      rw [List.take_of_length_le (by rw [← HN.out]; omega)] at hn1
      have Hn1 := Lib.hid hn1
      have Hn2 := Lib.hid hn2
      have hl1 : Hid (n - r = (xs.drop r).length) := by rw [List.length_drop, ← HN.out]; rfl
      have hl2 : Hid (r = (xs.take r).length) := by have := HN.out; rw [List.length_take]; show r = _; omega
      have h63 : Hid (([] : List Cand).length + (n - r) ≤ 4194304) := by show _ ≤ _; simp; omega
      have h64 : Hid (([] ++ xs.drop r).length + r ≤ 4194304) := by show _ ≤ _; have := HN.out; simp; omega
      have hown0 : ownR 35 14 candR (wr.alloc (.cells #[] 35)).drew F w.heap.size (.slice (some ⟨wr.heap.size, 0, none⟩) 0 0) [] :=
        (ownR.made wr _ hB.size (HF.out.below hB)).drew candR_ok (HF.out.below (hB.alloc hB.size _))
      have hBd : Below w.heap.size w (wr.alloc (.cells #[] 35)).drew := (hB.alloc hB.size _).drew
      have Hown0 := Lib.hid hown0
      clear hG hn1 hn2 hown0
      go_region_law (first
        | (refine step_push _ (by rfl) (.tmp 68) (.tmp 71) 40 (by rfl) candR_ok w.heap.size 35 ic _ 160 Try.underlying40 hic hc0 hc1 hc2 (by rfl) (by decide) F _ [] (by rfl) Hown0.out ⟨b, off + r * 14, none⟩ (n - r) (c - r) new1 (xs.drop r) (by rfl) hl1.out (Hn1.out _ hBd).2 (Hn1.out _ hBd).1 (HF.out.below hBd) h63.out (by decide) hBd.size ?_; intro v1 w1 hown1 hg1 hv1; have hB1' := hBd.grown hg1 hBd.size fun g he => (Hown0.out.lt g he).1; have Hown1 := Lib.hid hown1; clear hown1)
        | (refine step_push _ (by rfl) (.tmp 72) (.tmp 75) 40 (by rfl) candR_ok w.heap.size 35 ic _ 160 Try.underlying40 hic hc0 hc1 hc2 (by rfl) (by decide) F _ _ (by rfl) Hown1.out ⟨b, off, none⟩ r c new2 (xs.take r) (by rfl) hl2.out (Hn2.out _ hB1').2 (Hn2.out _ hB1').1 (HF.out.below hB1') h64.out (by decide) hB1'.size ?_; intro v2 w2' hown2 hg2 hv2; have hB2' := hB1'.grown hg2 hB1'.size fun g he => (Hown1.out.lt g he).1; have Hown2 := Lib.hid hown2; clear hown2))
      clear hcr hrc hr0 hr1 hr2 hBd hg1 hv1 hB1'
      go_wp2_with fail
      have hFi : InF F w2' := HF.out.below hB2'
      go_loopw [8, 9] (fun v8 i wi => ∃ k : Nat, k ≤ n ∧ i = .int .i64 ((k : Int) - 1) ∧ Hid (ownR 35 14 candR wi F w2'.heap.size v8 (xs.drop k).reverse) ∧ Below w2'.heap.size w2' wi) (fun _ i _ => (intOf i + 1).toNat)
      case atStart => exact ⟨n, Nat.le_refl _, rfl, Lib.hid (by
        rw [List.drop_of_length_le (by rw [← HN.out]; omega)]
        exact ownR.made w2' _ (Nat.le_refl _) hFi), (Below.refl _ _).alloc (Nat.le_refl _) _⟩
      case round =>
        obtain ⟨k, hk, rfl, Hown, hB3⟩ := hrel
        by_cases hk0 : k = 0
        · subst hk0
          have hne : xs ≠ [] := fun h => by have := HN.out; rw [h] at this; simp at this; omega
          have hrx : r < xs.length := by rw [← HN.out]; exact hrl
          obtain ⟨a, bb, ea, eb, hal, hbt⟩ := best_turned Hap.out hne hrx
          obtain ⟨a', cc, ea', ec, _, hct⟩ := best_back Hap.out hne
          obtain rfl : a = a' := by omega
          rw [← HN.out] at hal hbt hct
          have hnn : (0 : Int) ≤ (a : Int) - (r : Int) + (n : Int) := by omega
          rw [Int.tmod_eq_emod_of_nonneg hnn] at hbt
          have hBw := below_step hB2' hB3
          have Hb0 := Lib.hid (best_of wr F _ n c xs ((listR_ok candR_ok).below Hl.out hBw HF.out) (HF.out.below hBw) hn HG.out)
          have hg1 : ∀ y ∈ [] ++ xs.drop r ++ xs.take r, y.Good := fun y hy => by
            rw [List.nil_append, List.mem_append] at hy
            rcases hy with h | h
            · exact HG.out y (List.mem_of_mem_drop h)
            · exact HG.out y (List.mem_of_mem_take h)
          have hg2 : ∀ y ∈ (xs.drop 0).reverse, y.Good := fun y hy => HG.out y (by simpa using hy)
          have hb2' := fun W hW => best_own w2' W F _ v2 _ Hown2.out hFi hW (by have := HN.out; simp; omega) hg1
          have hb3' := fun W hW => best_own wr W F _ _ _ Hown.out (HF.out.below hBw) hW (by have := HN.out; simp; omega) hg2
          rw [List.nil_append, eb] at hb2'
          rw [List.drop_zero, ec] at hb3'
          rw [ea] at Hb0
          have Hb2 := Lib.hid hb2'
          have Hb3 := Lib.hid hb3'
          have hbt' : ((bb : Int) == ((a : Int) - (r : Int)) % (n : Int)) = true := by simp [hbt]
          have hct' : ((cc : Int) == (n : Int) - 1 - (a : Int)) = true := by simp [hct]
          have ha0 : decide ((0 : Int) ≤ (a : Int)) = true := decide_eq_true (by omega)
          clear ea ea' eb ec hbt hct hne hrx hg1 hg2 hb2' hb3'
          go_wp2_with fail
          refine Hb0.out.mono ?_
          rintro e w5 ⟨rfl, hb5⟩
          have hB5 := below_step hB3 hb5
          go_wp2_with fail
          refine (Hb2.out w5 hB5).mono ?_
          rintro e w6 ⟨rfl, hb6⟩
          have hB6 := below_step hb5 hb6
          go_wp2_with fail
          refine (Hb3.out w6 hB6).mono ?_
          rintro e w7 ⟨rfl, hb7⟩
          go_wp2_with fail
          go_ret
          exact ⟨rfl, below_step hBw (below_step hB6 hb7)⟩
        · obtain ⟨s, rfl⟩ : ∃ s, k = s + 1 := ⟨k - 1, by omega⟩
          have e1 : ((s + 1 : Nat) : Int) - 1 = (s : Int) := by omega
          rw [e1]
          obtain ⟨x, hx⟩ : ∃ x, xs[s]? = some x := ⟨_, List.getElem?_eq_getElem (by rw [← HN.out]; omega)⟩
          obtain ⟨b', off', cs, he, _, hR, hr⟩ := Hl.out.at_ hx
          obtain ⟨rfl, rfl⟩ : b = b' ∧ off = off' := by simp only [Option.some.injEq, Addr.mk.injEq] at he; exact ⟨he.1, he.2.1⟩
          have hBw := below_step hB2' hB3
          have hR2 := candR_ok.below hR hBw HF.out
          obtain ⟨A1, n1, c1, A2, n2, c2, A3, n3, c3, rfl⟩ := hR.lit
          obtain ⟨l1, l2⟩ := cells_now (rangeAt_below hr hBw hbl)
          have HR := Lib.hid hR2
          have hstep : (xs.drop s).reverse = (xs.drop (s + 1)).reverse ++ [x] := by
            rw [List.drop_eq_getElem_cons (by rw [← HN.out]; omega), List.reverse_cons]
            rw [(List.getElem?_eq_some_iff.1 hx).2]
          have Hstep := Lib.hid hstep
          have HFi := Lib.hid (HF.out.below hBw)
          have hle : Hid (((xs.drop (s + 1)).reverse).length ≤ 12) := by show _ ≤ _; have := HN.out; simp; omega
          have hs0 : (0 : Int) ≤ (s : Int) := by omega
          have hs1 : (s : Int) < (n : Int) := by omega
          clear he hx hR hr hR2 hstep e1
          go_wp2_with (at_builtin; refine wpList_push _ rfl (.tmp 85) (.tmp 90) _ rfl candR_ok w2'.heap.size 35 ic _ 160 Try.underlying40 hic hc0 hc1 hc2 rfl (by decide) F _ _ rfl (Hown.out.below candR_ok ?c0 HFi.out) ⟨_, 0, none⟩ 1 1 _ [x] rfl rfl (cells_row_new _ _ _) (Groups.single ?c1) ?c2 ?c3 (by decide) ?c4 ?_)
          case c0 => exact (Below.refl _ _).alloc (Nat.le_refl _) _
          case c1 => exact candR_ok.below HR.out ((Below.refl _ _).alloc (Nat.le_refl _) _) HFi.out
          case c2 => exact HFi.out.below ((Below.refl _ _).alloc (Nat.le_refl _) _)
          case c3 => have := hle.out; omega
          case c4 => have := hB3.size; simp; omega
          intro v6' w6 hown6 hg6 _
          have hbi : Below w2'.heap.size w2' w6 := (hB3.alloc hB3.size _).grown hg6 (by have := hB3.size; simp; omega) fun g6 he => (Hown.out.lt g6 he).1
          have Hown6 := Lib.hid hown6
          clear l1 l2 hg6 hown6
          go_wp2_with fail
          go_roundw
          case rel => exact ⟨s, by omega, by go_num, Lib.hid (by rw [Hstep.out]; exact Hown6.out), hbi⟩
          case measure => simp [intOf]
end Go.Proofs.Ytngfabnkgpidjaa
