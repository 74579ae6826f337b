/- The law's plains. -/
import Derived.Test.YtngfabnkgpidjaaLawPlain
import Derived.Test.YtngfabnkgpidjaaChooseH
namespace Go.Proofs.Ytngfabnkgpidjaa
open Go.RowKit
set_option linter.unusedVariables false

theorem route_info : (Try.prog.info? 48).map (fun i => (i.zero, i.size, i.bytes)) = some (some (.agg #[.int .i64 0, .int .i64 0, .int .i64 0, .int .i64 0, .int .i64 0, .int .u32 0, .int .i64 0]), 7, 56) := by kernel_rfl

def rowsOf (rs : List RRoute) : List Value := rs.flatMap RRoute.row
theorem rowsOf_take {xs : List Cand} {k : Nat} {x : Cand} (hx : xs[k]? = some x) : rowsOf ((xs.take (k + 1)).map plainI) = rowsOf ((xs.take k).map plainI) ++ (plainI x).row := by
  rw [List.take_add_one, hx, List.map_append]
  simp [rowsOf]

theorem cells_row_new (w : World) (t : TypeId) (cs : List Value) : ∀ j u, cs[j]? = some u → (w.alloc (.cells cs.toArray t)).cell? (Addr.add ⟨w.heap.size, 0, none⟩ j) = some u := fun j u hu => by
  have h := rangeAt_new w t cs j u hu
  rw [Addr.add_mid]
  exact h
theorem own_ne (v : Value) : v.ownBlock = none ∨ v.ownBlock ≠ none := by cases v.ownBlock <;> simp
theorem own_made1 (w : World) (t : TypeId) (size : Nat) : (w.alloc (.cells #[] t)).ownsRow w.heap.size t size (.slice (some ⟨w.heap.size, 0, none⟩) 0 0) 0 [] :=
  World.ownsRow_made (base := w.heap.size) (e := t) (size := size) w #[] 0 (by simp) (by simp [maxLen]) (by simp)

set_option maxHeartbeats 2000000 in
theorem law_plains (w : World) (F : Nat → Prop) (A : Option Addr) (n c : Nat) (xs : List Cand) (h : listR 14 candR w F [.slice A n c] xs) (hF : InF F w) (hn : n ≤ 1048576) (hg : ∀ x ∈ xs, x.Good) :
    Calls Try.prog 14 #[.slice A n c] w fun e w' => ∃ v, e = .returned v ∧ w'.ownsRow w.heap.size 48 7 v n (rowsOf (xs.map plainI)) ∧ Below w.heap.size w w' := by
  have HN := Lib.hid h.len.1
  have Hl := Lib.hid h
  have Hg := Lib.hid hg
  obtain ⟨i0, hi0, hz0, hz1, hz2⟩ := info_parts route_info
  clear h hg
  go_enter Try.func14, Try.ntmps14
  go_wp2_with fail
  go_loopw [3, 9] (fun v i wr => ∃ k : Nat, k ≤ n ∧ i = .int .i64 k ∧ wr.ownsRow w.heap.size 48 7 v k (rowsOf ((xs.take k).map plainI)) ∧ Below w.heap.size w wr) (fun _ i _ => n - (intOf i).toNat)
  case atStart =>
    refine ⟨0, Nat.zero_le _, rfl, ?_, (Below.refl _ _).alloc (Nat.le_refl _) _⟩
    exact own_made1 w _ _
  case round =>
    obtain ⟨k, hk, rfl, hown, hB⟩ := hrel
    by_cases hlt : k < n
    · obtain ⟨x, hx⟩ : ∃ x, xs[k]? = some x := ⟨_, List.getElem?_eq_getElem (by rw [← HN.out]; exact hlt)⟩
      obtain ⟨b, off, cs, rfl, hFb, hR, hr⟩ := Hl.out.at_ hx
      have HR := Lib.hid (fun w' (h : Below w.heap.size w w') => (⟨candR_ok.below hR h hF, hF.below h⟩ : candR w' F _ x ∧ InF F w'))
      obtain ⟨A1, n1, c1, A2, n2, c2, A3, n3, c3, rfl⟩ := hR.lit
      obtain ⟨l1, l2⟩ := cells_now (rangeAt_below hr hB (hF b hFb))
      have HX := Lib.hid hx
      have HG := Lib.hid (Hg.out x (List.mem_of_getElem? hx))
      have Hown := Lib.hid hown
      clear hr hR hx hown
      have hB2 := hB.alloc hB.size (.cells #[.int .i64 x.peer, .int .u32 x.addr, .int .i64 x.len, .int .i64 x.at_.has, .int .i64 x.at_.origin, .slice A1 n1 c1, .int .u32 x.at_.nextHop, .int .i64 x.at_.med, .int .i64 x.at_.loc, .int .i64 x.at_.aggrAs, .int .u32 x.at_.aggrId, .slice A2 n2 c2, .slice A3 n3 c3, .int .u32 x.id] 35)
      go_wp2_with (first
        | (go_at_call 15; (with_reducible refine (law_plain _ F _ x (HR.out _ hB2).1 (HR.out _ hB2).2 HG.out.small HG.out.has).mono ?_); rintro e w1 ⟨rfl, hb1⟩; have hB3 := below_step hB2 hb1; have hbr := below_step ((Below.refl wr.heap.size wr).alloc (Nat.le_refl _) _) hb1; have hown1 := Hown.out.kept (grownBy_of_below hbr) (own_ne _))
        | (at_builtin; refine wpList_append_own _ rfl (.tmp 13) (.tmp 16) _ rfl w.heap.size 48 i0 (.agg #[.int .i64 0, .int .i64 0, .int .i64 0, .int .i64 0, .int .i64 0, .int .u32 0, .int .i64 0]) 7 56 Try.underlying44 hi0 hz0 hz1 hz2 rfl (by decide) _ _ _ rfl (hown1.alloc _) ⟨w1.heap.size, 0, none⟩ 1 1 (plainI x).row rfl rfl ?c1 ?c2 ?c3 ?c4 ?c5 ?_))
      case c1 => exact cells_row_new _ _ _
      case c2 => intro u hu; simp [RRoute.row] at hu; rcases hu with rfl | rfl | rfl | rfl | rfl | rfl | rfl <;> rfl
      case c3 => simp only [maxLen]; omega
      case c4 => omega
      case c5 => have := hB3.size; simp; omega
      intro v3 w3 hown3 hg3 _
      have hB4 : Below w.heap.size w w3 := (hB3.alloc hB3.size _).grown hg3 (by have := hB3.size; simp; omega) (fun g hgg => (hown1.lt g hgg).1)
      go_wp2_with fail
      go_roundw
      case rel => exact ⟨k + 1, by omega, by go_num, by rw [rowsOf_take HX.out, List.map_take]; exact hown3, hB4⟩
      case measure => simp [intOf]; omega
    · obtain rfl : n = k := by omega
      go_wp2_with fail
      go_ret
      refine ⟨_, rfl, ?_, hB⟩
      have := HN.out
      rwa [List.take_of_length_le (by omega)] at hown
end Go.Proofs.Ytngfabnkgpidjaa
