/- The library's MinFunc over routes, by 'before'. -/
import Derived.Test.YtngfabnkgpidjaaChooseA
namespace Go.Proofs.Ytngfabnkgpidjaa
open Go.RowKit

def minBy {α : Type} (cf : α → α → Int) (m : α) : List α → α
  | [] => m
  | x :: r => minBy cf (if cf x m < 0 then x else m) r
theorem minBy_snoc {α : Type} (cf : α → α → Int) : ∀ (l : List α) (m x : α), minBy cf m (l ++ [x]) = if cf x (minBy cf m l) < 0 then x else minBy cf m l
  | [], m, x => rfl
  | y :: r, m, x => by simp only [List.cons_append, minBy]; exact minBy_snoc cf r _ x
def bestBy {α : Type} (cf : α → α → Int) (d : α) : List α → α
  | [] => d
  | x :: r => minBy cf x r
theorem take_snoc {α : Type} {l : List α} {k : Nat} {x : α} (h : l[k]? = some x) : l.take (k + 1) = l.take k ++ [x] := by
  have hk : k < l.length := (List.getElem?_eq_some_iff.1 h).1
  rw [List.take_succ_eq_append_getElem hk, (List.getElem?_eq_some_iff.1 h).2]
theorem bestBy_take {α : Type} (cf : α → α → Int) (d : α) {l : List α} {k : Nat} {x : α} (h : l[k]? = some x) (h1 : 1 ≤ k) :
    bestBy cf d (l.take (k + 1)) = if cf x (bestBy cf d (l.take k)) < 0 then x else bestBy cf d (l.take k) := by
  rw [take_snoc h]
  rcases hq : l.take k with _ | ⟨y, r⟩
  · have : (l.take k).length = 0 := by rw [hq]; rfl
    have hk : k < l.length := (List.getElem?_eq_some_iff.1 h).1
    rw [List.length_take] at this
    omega
  · simp only [List.cons_append, bestBy]
    exact minBy_snoc cf r y x

/-- what the routes must be like for the comparison -/
structure Cand.Good (c : Cand) : Prop where
  small : c.at_.Small
  has : 0 ≤ c.at_.has

theorem bestBy_mem {α : Type} (cf : α → α → Int) (d : α) : ∀ {l : List α}, l ≠ [] → bestBy cf d l ∈ l
  | [], h => absurd rfl h
  | x :: r, _ => by
    simp only [bestBy]
    have : ∀ (r : List α) (m : α), minBy cf m r = m ∨ minBy cf m r ∈ r := by
      intro r
      induction r with
      | nil => intro m; exact .inl rfl
      | cons y r ih =>
        intro m
        simp only [minBy]
        rcases ih (if cf y m < 0 then y else m) with h | h
        · rw [h]
          split
          · exact .inr (by simp)
          · exact .inl rfl
        · exact .inr (by simp [h])
    rcases this r x with h | h
    · rw [h]; simp
    · simp [h]

attribute [local go_sem ↓] Go.wp_at_zero Go.wp_at_succ
set_option maxHeartbeats 1000000 in
theorem minFunc_before (w : World) (F : Nat → Prop) (A : Option Addr) (n c : Nat) (xs : List Cand) (hl : listR 14 candR w F [.slice A n c] xs) (hF : InF F w) (hn0 : 0 < n) (hn : n ≤ 1048576) (hg : ∀ x ∈ xs, x.Good) (d : Cand) :
    Calls Try.prog 18 #[.slice A n c, .func (.func 19) #[] #[]] w fun e w' =>
      ∃ cs, e = .returned (.agg cs.toArray) ∧ candR w' F cs (bestBy beforeI d xs) ∧ Below w.heap.size w w' := by
  have Hn := Lib.hid hl.len.1
  obtain ⟨x0, hx0⟩ : ∃ x, xs[0]? = some x := ⟨_, List.getElem?_eq_getElem (by rw [← Hn.out]; exact hn0)⟩
  obtain ⟨b, off, cs0, rfl, hFb, hR0, hr0⟩ := hl.at_ hx0
  have Hl := Lib.hid hl
  have Hg := Lib.hid hg
  have hbl := hF b hFb
  have hz : decide ((n : Int) < 1) = false := by simp; omega
  have HR0 := Lib.hid hR0
  have Hx0 := Lib.hid hx0
  simp only [Nat.zero_mul, Nat.add_zero] at hr0
  clear hl hg hR0 hx0
  go_enter Try.func18, Try.ntmps18
  have hlen0 := candR_ok.len HR0.out
  go_wp2_with (first
    | (refine wpList_load_mid rfl 35 (.tmp 12) rfl b off rfl cs0 _ ?hr Try.underlying35 rfl ?hi ?_)
    | (refine wpList_store_new rfl 35 (.tmp 5) (.tmp 13) rfl (w.heap.size + 1) _ _ cs0 rfl rfl ?hg ?hs2 ?hi2 ?h12 ?_))
  case hr => exact rangeAt_below hr0 ((Below.refl _ _).alloc (Nat.le_refl _) _) hbl
  case hi => rw [hlen0]; rfl
  case hg => simp
  case hs2 => rw [hlen0]; rfl
  case hi2 => rw [hlen0]; rfl
  case h12 => exact candR_ok.one HR0.out
  go_loopw [6] (fun i wr => ∃ k cs m, k ≤ n ∧ 1 ≤ k ∧ i = .int .i64 (k : Nat) ∧ m = bestBy beforeI d (xs.take k) ∧ Blk wr (w.heap.size + 1) 35 cs.toArray ∧ candR wr F cs m ∧ m ∈ xs ∧ Below w.heap.size w wr ∧ (∃ z : Array Value, z.size = 14 ∧ Blk wr w.heap.size 35 z)) (fun i _ => n - (intOf i).toNat)
  case atStart =>
    have hB := ((Below.refl w.heap.size w).alloc (Nat.le_refl _) (.cells #[.int .i64 0, .int .u32 0, .int .i64 0, .int .i64 0, .int .i64 0, .slice none 0 0, .int .u32 0, .int .i64 0, .int .i64 0, .int .i64 0, .int .u32 0, .slice none 0 0, .slice none 0 0, .int .u32 0] 35)).alloc (by simp) (.cells cs0.toArray 35)
    refine ⟨1, cs0, x0, hn0, Nat.le_refl _, rfl, ?_, Blk.new2 _ _ _ _, candR_ok.below HR0.out hB hF, List.mem_of_getElem? Hx0.out, hB, _, ?_, (Blk.new _ _ _).alloc _⟩
    · rw [take_snoc Hx0.out]; rfl
    · rfl
  case round =>
    obtain ⟨k, cs, m, hk, hk1, rfl, hm, hblk, hR, hmx, hB, z, hz14, hzb⟩ := hrel
    have Hm := Lib.hid hm
    have Hz := Lib.hid hz14
    have HR := Lib.hid hR
    clear hm hz14 hR hr0 Hx0 HR0 hlen0
    have hlen := candR_ok.len HR.out
    have hFw : InF F wr := hF.below hB
    by_cases hlt : k < n
    · obtain ⟨x, hx⟩ : ∃ x, xs[k]? = some x := ⟨_, List.getElem?_eq_getElem (by rw [← Hn.out]; exact hlt)⟩
      obtain ⟨b', off', cx, he, _, hRx, hrx⟩ := Hl.out.at_ hx
      cases he
      have hRx' := candR_ok.below hRx hB hF
      obtain ⟨A1, n1, c1, A2, n2, c2, A3, n3, c3, rfl⟩ := hRx'.lit
      obtain ⟨B1, m1, d1, B2, m2, d2, B3, m3, d3, rfl⟩ := HR.out.lit
      obtain ⟨l1, l2⟩ := cells_keep (rangeAt_below hrx hB hbl) (hFw b hFb)
      have l3 := hblk.cells
      have HX := Lib.hid (fun w' (h : Below wr.heap.size wr w') => (⟨candR_ok.below hRx' h hFw, candR_ok.below HR.out h hFw, hFw.below h⟩ : candR w' F _ x ∧ candR w' F _ m ∧ InF F w'))
      have Hx := Lib.hid hx
      have HG := Lib.hid (⟨Hg.out x (List.mem_of_getElem? hx), Hg.out m hmx⟩ : x.Good ∧ m.Good)
      clear hRx hrx hx hRx' hlen
      have hb0 : (0 : Int) ≤ (k : Int) := by omega
      have hb1 : (k : Int) < (n : Int) := by omega
      go_wp2_with fail
      go_region_held3 (fun w' => Below wr.heap.size wr w') (first | exact below_step (by assumption) hb1' | (repeat' (first | exact Below.refl _ _ | assumption | exact Below.size (by assumption) | refine Below.drew ?_ | refine Below.alloc ?_ ?_ _ | refine Below.setCell ?_ ?_ _ | (simp; done) | (simp; omega))))
        (first
          | (go_at_call 19; (with_reducible refine (choose_before _ F _ _ x m (HX.out _ ?_).1 (HX.out _ ?_).2.1 (HX.out _ ?_).2.2 HG.out.1.small HG.out.2.small HG.out.1.has HG.out.2.has).mono ?_); assumption; assumption; assumption; rintro e w1 ⟨rfl, hb1'⟩))
      have HS := Lib.hid (bestBy_take beforeI d Hx.out hk1)
      have hS : Below wr.heap.size wr w1 := by assumption
      have hblk1 := hblk.below hS hblk.lt
      have hzb1 := hzb.below hS hzb.lt
      have hBs := hB.trans (hS.mono hB.size)
      clear hzb hblk l3
      by_cases hc : beforeI x m < 0
      · have hcd : decide (beforeI x m < 0) = true := by simpa using hc
        have HC := Lib.hid hc
        go_wp2_with (refine wpList_store_blk rfl 35 (.tmp 5) (.tmp 31) rfl (w.heap.size + 1) 35 _ _ rfl rfl hblk1 ?hsz ?hi ?h1 ?_)
        case hsz => rfl
        case hi => rfl
        case h1 => exact candR_ok.one (HX.out _ hS).1
        intro w2 hblk2 hg2
        have hB2 : Below w.heap.size w w2 := below_grown hBs hg2 (by omega)
        have hR2 : candR w2 F _ x := candR_ok.keep (HX.out _ hS).1 (fun b hb => hg2.block b (Nat.lt_of_lt_of_le (hFw b hb) hS.size) (fun e => by cases e; have := hF _ hb; omega)) (fun _ h => h)
        have hz2 := hzb1.grown hg2 (by omega)
        go_wp2
        go_roundw
        case rel => exact ⟨k + 1, _, x, by omega, by omega, by go_num, by rw [HS.out, ← Hm.out, if_pos HC.out], hblk2, hR2, List.mem_of_getElem? Hx.out, hB2, z, Hz.out, hz2⟩
        case measure => simp [intOf]; omega
      · have hcd : decide (beforeI x m < 0) = false := by simpa using hc
        have HC := Lib.hid hc
        go_wp2
        go_roundw
        case rel => exact ⟨k + 1, _, m, by omega, by omega, by go_num, by rw [HS.out, ← Hm.out, if_neg HC.out], hblk1, (HX.out _ hS).2.1, hmx, hBs, z, Hz.out, hzb1⟩
        case measure => simp [intOf]; omega
    · obtain ⟨B1, m1, d1, B2, m2, d2, B3, m3, d3, rfl⟩ := HR.out.lit
      have l3 := hblk.cell
      clear hlen
      go_wp2_with (refine wpList_store_blk rfl 35 (.tmp 4) (.tmp 32) rfl w.heap.size 35 _ _ rfl rfl hzb ?hsz ?hi ?h1 ?_)
      case hsz => exact Hz.out
      case hi => rfl
      case h1 => exact candR_ok.one HR.out
      intro w2 hblk2 hg2
      have hB2 : Below w.heap.size w w2 := below_grown hB hg2 (Nat.le_refl _)
      have hR2 : candR w2 F _ m := candR_ok.keep HR.out (fun b hb => hg2.block b (hFw b hb) (fun e => by cases e; exact absurd (hF _ hb) (Nat.lt_irrefl _))) (fun _ h => h)
      have hm2 : m = bestBy beforeI d xs := by rw [Hm.out, List.take_of_length_le (by rw [← Hn.out]; omega)]
      go_wp2
      refine bodyPost_ret (results_cell_row rfl _ _ w.heap.size 35 _ (0, 0) _ rfl hblk2.heap Try.underlying35 rfl rfl) rfl ?_
      exact ⟨_, rfl, hm2 ▸ hR2, hB2⟩
end Go.Proofs.Ytngfabnkgpidjaa
