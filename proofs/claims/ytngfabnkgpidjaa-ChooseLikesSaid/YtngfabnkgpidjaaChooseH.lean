/- The law's own helpers: route. -/
import Derived.Test.YtngfabnkgpidjaaChooseG
namespace Go.Proofs.Ytngfabnkgpidjaa
open Go.RowKit
set_option linter.unusedVariables false

def hundreds (k : Nat) : List Int := (List.range k).map fun (j : Nat) => 100 + (j : Int)
theorem hundreds_succ (k : Nat) : hundreds (k + 1) = hundreds k ++ [100 + (k : Int)] := by simp [hundreds, List.range_succ]
def routeC (h p i : Nat) : Cand := ⟨p, 0, 0, ⟨14, 0, [⟨false, hundreds h⟩], 0, 0, 0, 0, 0, [], []⟩, i⟩
theorem Groups.single {α : Type} {R : Rep α} {w : World} {F : Nat → Prop} {cs : List Value} {x : α} (h : R w F cs x) : Groups R w F cs [x] := ⟨cs, [], by simp, h, rfl⟩
theorem own_made2 (w : World) (o : Obj) (t : TypeId) (size : Nat) : ((w.alloc o).alloc (.cells #[] t)).ownsRow (w.heap.size + 1) t size (.slice (some ⟨w.heap.size + 1, 0, none⟩) 0 0) 0 [] := by
  have h := World.ownsRow_made (base := w.heap.size + 1) (e := t) (size := size) (w.alloc o) #[] 0 (by simp) (by simp [maxLen]) (by simp)
  simp only [World.size_alloc] at h
  exact h
theorem own_val {w : World} {base : Nat} {e : TypeId} {size n : Nat} {v : Value} {xs : List Value} (h : w.ownsRow base e size v n xs) : ∃ A c, v = .slice A n c := by
  rcases h.2 with ⟨hv, h0⟩ | ⟨g, cap, cur, hv, _⟩
  · exact ⟨none, 0, by rw [hv, h0]⟩
  · exact ⟨_, _, hv⟩
/-- an owned row of ints, frozen -/
theorem ints_freeze {w : World} {F : Nat → Prop} {base n : Nat} {e : TypeId} {k : IntKind} {v : Value} {xs : List Int} (h : w.ownsRow base e 1 v n (xs.map (Value.int k))) (hb : ∀ x ∈ xs, k.min ≤ x ∧ x ≤ k.max) :
    listR 1 (intR k) w (fun b => F b ∨ v.ownBlock = some b) [v] xs := by
  have hn : n = xs.length := by have := h.1; simp at this; omega
  subst hn
  have ho : ownR e 1 (intR k) w (fun _ => False) base v xs := ⟨_, h, Groups.ints hb, fun _ _ h => h⟩
  exact (listR_ok (intR_ok k)).keep (ho.freeze (intR_ok k)) (fun _ _ => rfl) fun b hb => by
    rcases hb with h | h
    · exact h.elim
    · exact .inr h
/-- a slice literal of one element, frozen -/
theorem listR_one {α : Type} {size : Nat} {R : Rep α} (ok : R.Ok size) {w : World} {F : Nat → Prop} {cs : List Value} {x : α} (h : R w F cs x) {g : Nat} (hr : w.rangeAt g 0 cs) :
    listR size R w (fun b => F b ∨ b = g) [.slice (some ⟨g, 0, none⟩) 1 1] [x] := by
  refine ⟨_, _, rfl, Nat.le_refl _, by simp [maxLen], fun k y hk => ?_⟩
  cases k with
  | zero =>
    simp at hk
    subst hk
    exact ⟨g, 0, cs, rfl, .inr rfl, ok.keep h (fun _ _ => rfl) (fun _ h => .inl h), by simpa using hr⟩
  | succ k => simp at hk

set_option maxHeartbeats 2000000 in
theorem law_route (w : World) (F : Nat → Prop) (hF : InF F w) (h p i : Nat) (hh : h ≤ 100) (hp : p ≤ 1000) (hi : i ≤ 1000) :
    Calls Try.prog 10 #[.int .i64 h, .int .i64 p, .int .i64 i] w fun e w' => ∃ cs F', e = .returned (.agg cs.toArray) ∧ candR w' F' cs (routeC h p i) ∧ Grew w F w' F' := by
  obtain ⟨i0, hi0, hz0, hz1, hz2⟩ := info_parts int_info
  go_enter Try.func10, Try.ntmps10
  go_wp2_with fail
  go_loopw [7, 8] (fun v i wr => ∃ k : Nat, k ≤ h ∧ i = .int .i64 k ∧ wr.ownsRow (w.heap.size + 1) 3 1 v k ((hundreds k).map (Value.int .i64)) ∧ Below w.heap.size w wr ∧ (∃ z : Array Value, z.size = 14 ∧ Blk wr w.heap.size 35 z)) (fun _ i _ => h - (intOf i).toNat)
  case atStart =>
    refine ⟨0, Nat.zero_le _, rfl, ?_, ((Below.refl _ _).alloc (Nat.le_refl _) _).alloc (by simp) _, _, ?_, (Blk.new _ _ _).alloc _⟩
    · exact own_made2 w _ _ _
    · rfl
  case round =>
    obtain ⟨k, hk, rfl, hown, hB, z, hz14, hzb⟩ := hrel
    have Hz := Lib.hid hz14
    clear hz14
    by_cases hlt : k < h
    · have hk100 : k < 100 := by omega
      go_wp2_with (at_builtin; refine wpList_append_own _ rfl (.tmp 17) (.tmp 20) _ rfl (w.heap.size + 1) 3 i0 (.int .i64 0) 1 8 Try.underlying28 hi0 hz0 hz1 hz2 rfl (by decide) _ _ _ rfl (hown.alloc _) ⟨wr.heap.size, 0, none⟩ 1 1 [.int .i64 (100 + (k : Int))] rfl rfl ?c1 ?c2 ?c3 ?c4 ?c5 ?_)
      case c1 => exact cell_one_new _ _ _
      case c2 => simp [Value.oneCell']
      case c3 => simp only [maxLen]; omega
      case c4 => omega
      case c5 => have := hzb.lt; simp; omega
      intro v3 w3 hown3 hg3 _
      have hz3 : Blk w3 w.heap.size 35 z := ⟨(hg3.block w.heap.size (Nat.lt_of_lt_of_le hzb.lt (by simp)) (fun e => by have := (hown.lt _ e.symm).1; omega)).trans (hzb.alloc _).heap⟩
      have hB3 : Below w.heap.size w w3 := (hB.alloc hB.size _).grown hg3 (by have := hB.size; simp; omega) (fun g hgg => by have := (hown.lt g hgg).1; omega)
      go_wp2_with fail
      go_roundw
      case rel => exact ⟨k + 1, by omega, by go_num, by rw [hundreds_succ, List.map_append]; exact hown3, hB3, z, Hz.out, hz3⟩
      case measure => simp [intOf]; omega
    · obtain rfl : h = k := by omega
      obtain ⟨A, C, rfl⟩ := own_val hown
      go_upto_region 7 with fail
      refine wp_gen (fun W => Below wr.heap.size wr W ∧ W.rangeAt wr.heap.size 0 [.bool false, .slice A h C] ∧
        Blk W (wr.heap.size + 1) 35 #[.int .i64 p, .int .u32 0, .int .i64 0, .int .i64 14, .int .i64 0, .slice (some ⟨wr.heap.size, 0, none⟩) 1 1, .int .u32 0, .int .i64 0, .int .i64 0, .int .i64 0, .int .u32 0, .slice none 0 0, .slice none 0 0, .int .u32 0]) ?_ ?_
      · exact ⟨((Below.refl _ _).alloc (Nat.le_refl _) _).alloc (by simp) _, ((Blk.new wr _ _).alloc _).range (cs := [.bool false, .slice A h C]), Blk.new2 _ _ _ _⟩
      rintro W ⟨hW, hseg, hkb⟩
      have hzW := hzb.below hW hzb.lt
      have hownW := hown.kept (grownBy_of_below hW) (Classical.em _)
      have hBW := hB.trans (hW.mono hB.size)
      have hWs := hkb.lt
      have hw0 := hB.size
      have hsW : w.heap.size < wr.heap.size := hzb.lt
      have hown0 := Lib.hid hown
      clear hown hzb hB
      go_wp2_with fail
      obtain ⟨wo, rfl⟩ : ∃ wo : World, wo = wr := ⟨_, rfl⟩
      obtain ⟨G, hG⟩ : ∃ G, G = wo.heap.size + 1 := ⟨_, rfl⟩
      rw [← hG] at hkb hWs ⊢
      have HG := Lib.hid hG
      clear hG
      go_loopw [10] (fun j wr => ∃ k : Nat, k ≤ i ∧ j = .int .i64 k ∧ W.grownBy wr (some G) ∧
        Blk wr G 35 #[.int .i64 p, .int .u32 0, .int .i64 0, .int .i64 14, .int .i64 0, .slice (some ⟨wo.heap.size, 0, none⟩) 1 1, .int .u32 0, .int .i64 0, .int .i64 0, .int .i64 0, .int .u32 0, .slice none 0 0, .slice none 0 0, .int .u32 k]) (fun j _ => i - (intOf j).toNat)
      case atStart => exact ⟨0, Nat.zero_le _, rfl, grownBy_refl _ _, hkb⟩
      case round =>
        obtain ⟨k, hk, rfl, hgr, hbk⟩ := hrel
        have hcl := hbk.cell
        have hfr := hbk.free
        by_cases hlt2 : k < i
        · have hk1 : k < 1000 := by omega
          go_wp2_with fail
          go_roundw
          case rel => exact ⟨k + 1, by omega, by go_num, grownBy_trans hgr (grownBy_setCell _ _ _ _), by
            have := hbk.set_ (cs := [_, _, _, _, _, _, _, _, _, _, _, _, _, _]) 13 (.int .u32 ((k : Int) + 1))
            exact this⟩
          case measure => simp [intOf]; omega
        · obtain rfl : i = k := by omega
          have hz5 := hzW.grown hgr (by have := HG.out; omega)
          go_wp2_with (refine wpList_store_blk rfl 35 (.tmp 6) (.tmp 38) rfl w.heap.size 35 _ _ rfl rfl hz5 ?hsz ?hi ?h1 ?_)
          case hsz => exact Hz.out
          case hi => rfl
          case h1 => intro u hu; simp at hu; rcases hu with rfl | rfl | rfl | rfl | rfl | rfl | rfl | rfl | rfl | rfl | rfl | rfl | rfl | rfl <;> rfl
          intro w9 hblk9 hg9
          go_wp2_with fail
          refine bodyPost_ret (results_cell_row rfl _ _ w.heap.size 35 _ (0, 0) _ rfl hblk9.heap Try.underlying35 rfl rfl) rfl ?_
          have hGo := HG.out
          have hown9 := (hownW.kept hgr (by rcases hq : (Value.slice A h C).ownBlock with _ | g; exact .inl rfl; exact .inr (fun e => by cases e; have := (hown0.out.lt _ hq).2; omega))).kept hg9 (by rcases hq : (Value.slice A h C).ownBlock with _ | g; exact .inl rfl; exact .inr (fun e => by cases e; have := (hown0.out.lt _ hq).1; omega))
          have hsg : w9.rangeAt wo.heap.size 0 [.bool false, .slice A h C] := rangeAt_block (rangeAt_block hseg (hgr.block wo.heap.size (by omega) (by simp; omega))) (hg9.block wo.heap.size (by have := hgr.size; omega) (by simp; omega))
          have has := ints_freeze (F := F) hown9 (by
            intro x hx
            simp only [hundreds, List.mem_map, List.mem_range] at hx
            obtain ⟨j, hj, rfl⟩ := hx
            exact i64_mk (by omega) (by omega))
          have hsR : segR w9 (fun b => F b ∨ (Value.slice A h C).ownBlock = some b) [.bool false, .slice A h C] ⟨false, hundreds h⟩ := ⟨_, rfl, has⟩
          have hpR := listR_one segR_ok hsR hsg
          have hB9 : Below w.heap.size w w9 := (hBW.trans (grownBy_below hgr (by omega) (by omega))).trans (grownBy_below hg9 (Nat.le_refl _) (by have := hgr.size; omega))
          have hs9 := hg9.size
          have hsr := hgr.size
          refine ⟨_, _, rfl, ⟨[_, _, _, _, _, _, _, _, _, _], rfl, ⟨_, _, _, rfl, hpR, listR.nil, listR.nil, ?_⟩, ?_⟩, ⟨hB9, fun b hb => .inl (.inl hb), fun b hb => ?_, fun b hb => ?_⟩⟩
          · refine ⟨?_, ?_, ?_, ?_, ?_, ?_, ?_⟩ <;> simp [routeC]
          · refine ⟨?_, ?_, ?_, ?_⟩ <;> simp [routeC] <;> omega
          · rcases hb with (hb | hb) | rfl
            · exact .inl hb
            · exact .inr (by have := (hown9.lt _ hb).1; omega)
            · exact .inr (by omega)
          · rcases hb with (hb | hb) | rfl
            · have := hF b hb; omega
            · exact (hown9.lt _ hb).2
            · omega
end Go.Proofs.Ytngfabnkgpidjaa
