/- The library's IndexFunc, DeleteFunc and MinFunc over ints, at the closures that choose.Best makes. -/
import Derived.Test.YtngfabnkgpidjaaChooseB
namespace Go.Proofs.Ytngfabnkgpidjaa
open Go.RowKit

/-- a predicate's closure, called in any world in which block g alone, and new memory, may have turned -/
def PredOk (f : FuncId) (pa pb : Value) (w : World) (g : Nat) (L : List Int) (p : Int → Bool) : Prop :=
  ∀ (W : World) (i : Int), w.grownBy W (some g) → i ∈ L → Calls Try.prog f #[.int .i64 i, pa, pb] W fun e w' => e = .returned (.bool (p i)) ∧ Below W.heap.size W w'

theorem findIdx_take {L : List Int} {p : Int → Bool} {k : Nat} {x : Int} (h : ∀ y ∈ L.take k, p y = false) (hx : L[k]? = some x) (hp : p x = true) : L.findIdx p = k := by
  have hk : k < L.length := (List.getElem?_eq_some_iff.1 hx).1
  rw [List.findIdx_eq hk]
  refine ⟨by rw [(List.getElem?_eq_some_iff.1 hx).2]; exact hp, fun j hj => ?_⟩
  apply h
  rw [List.mem_take_iff_getElem]
  exact ⟨j, by omega, rfl⟩
def NoneOf (p : Int → Bool) (l : List Int) : Prop := ∀ y ∈ l, p y = false
theorem NoneOf.snoc {L : List Int} {p : Int → Bool} {k : Nat} {x : Int} (h : NoneOf p (L.take k)) (hx : L[k]? = some x) (hp : p x = false) : NoneOf p (L.take (k + 1)) := by
  intro y hy
  rw [take_snoc hx] at hy
  rcases List.mem_append.1 hy with h1 | h1
  · exact h y h1
  · simp at h1; rw [h1]; exact hp

def idxI (p : Int → Bool) (L : List Int) (n : Nat) : Int := if L.findIdx p < n then (L.findIdx p : Int) else -1

set_option maxHeartbeats 1000000 in
theorem indexFunc_int (w : World) (g n c : Nat) (L : List Int) (hl : Hid (L.length = n)) (hr : w.rangeAt g 0 (L.map (Value.int .i64))) (hn : n ≤ 1048576) (pa pb : Value) (p : Int → Bool)
    (hp : PredOk 22 pa pb w g L p) :
    Calls Try.prog 34 #[.slice (some ⟨g, 0, none⟩) n c, .func (.func 22) #[] #[pa, pb]] w fun e w' =>
      e = .returned (.int .i64 (idxI p L n)) ∧ Below w.heap.size w w' := by
  have Hr := Lib.hid hr
  clear hr
  go_enter Try.func34, Try.ntmps34
  go_wp2_with fail
  go_loopw [8] (fun i wr => ∃ k : Nat, k ≤ n ∧ i = .int .i64 k ∧ NoneOf p (L.take k) ∧ Below w.heap.size w wr) (fun i _ => n - (intOf i).toNat)
  case atStart => exact ⟨0, Nat.zero_le _, rfl, by simp [NoneOf], Below.refl _ _⟩
  case round =>
    obtain ⟨k, hk, rfl, hz, hB⟩ := hrel
    by_cases hlt : k < n
    · obtain ⟨x, hx⟩ : ∃ x, L[k]? = some x := ⟨_, List.getElem?_eq_getElem (by rw [hl.out]; exact hlt)⟩
      have h1 : w.cell? ⟨g, 0 + k, none⟩ = some (.int .i64 x) := Hr.out k _ (by rw [List.getElem?_map, hx]; rfl)
      rw [Nat.zero_add] at h1
      have c0 := (hB.cell (p := ⟨g, k, none⟩) (World.block_lt_of_cell? w _ h1)).trans h1
      have Hx := Lib.hid hx
      clear hx h1
      go_wp2_with fail
      refine (hp wr x ((grownBy_step (grownBy_refl w g) hB)) (List.mem_of_getElem? Hx.out)).mono ?_
      rintro e w1 ⟨rfl, hb1⟩
      have hB1 := below_step hB hb1
      cases hpx : p x
      · have Hp := Lib.hid hpx
        clear hpx
        go_wp2_with fail
        go_roundw
        case rel => exact ⟨k + 1, by omega, by go_num, hz.snoc Hx.out Hp.out, hB1⟩
        case measure => simp [intOf]; omega
      · have hf : L.findIdx p = k := findIdx_take hz Hx.out hpx
        have Hf := Lib.hid hf
        clear hf hpx
        go_wp2_with fail
        go_ret
        exact ⟨ret_int (by rw [idxI, Hf.out, if_pos hlt]), hB1⟩
    · have hf : ¬ L.findIdx p < n := by
        intro h
        have h2 := List.findIdx_getElem (p := p) (xs := L) (w := by rw [hl.out]; exact h)
        rw [hz _ (by rw [List.take_of_length_le (by rw [hl.out]; omega)]; exact List.getElem_mem _)] at h2
        cases h2
      have Hf := Lib.hid hf
      clear hf
      go_wp2_with fail
      go_ret
      exact ⟨ret_int (by rw [idxI, if_neg Hf.out]), hB⟩

/-- what stands in the row while DeleteFunc goes over it: what stays of the first j, something, and the rest as it was -/
structure DelAt (p : Int → Bool) (L C : List Int) (i j : Nat) : Prop where
  len : C.length = L.length
  done : C.take i = (L.take j).filter (fun x => !p x)
  rest : C.drop j = L.drop j
  le : i < j
theorem DelAt.skip {p : Int → Bool} {L C : List Int} {i j : Nat} {x : Int} (h : DelAt p L C i j) (hx : L[j]? = some x) (hp : p x = true) : DelAt p L C i (j + 1) :=
  ⟨h.len, by rw [take_snoc hx, List.filter_append, h.done]; simp [hp], by rw [← List.drop_drop, h.rest, List.drop_drop], by have := h.le; omega⟩
theorem DelAt.put {p : Int → Bool} {L C : List Int} {i j : Nat} {x : Int} (h : DelAt p L C i j) (hx : L[j]? = some x) (hp : p x = false) : DelAt p L (C.set i x) (i + 1) (j + 1) := by
  have hj : j < L.length := (List.getElem?_eq_some_iff.1 hx).1
  have hle := h.le
  have hlen := h.len
  refine ⟨by simp [h.len], ?_, ?_, by omega⟩
  · rw [take_snoc hx, List.filter_append, ← h.done]
    simp only [List.filter_cons, hp, List.filter_nil]
    have : (C.set i x)[i]? = some x := by rw [List.getElem?_set_self (by omega)]
    rw [take_snoc this, List.take_set_of_le (Nat.le_refl _)]
    rfl
  · rw [List.drop_set_of_lt (by omega), ← List.drop_drop, h.rest, List.drop_drop]
theorem DelAt.at_ {p : Int → Bool} {L C : List Int} {i j : Nat} {x : Int} (h : DelAt p L C i j) (hx : L[j]? = some x) : C[j]? = some x := by
  have h1 : (C.drop j)[0]? = (L.drop j)[0]? := by rw [h.rest]
  simpa [hx] using h1
theorem DelAt.start {p : Int → Bool} {L : List Int} {i : Nat} (hi : L.findIdx p = i) (hl : i < L.length) : DelAt p L L i (i + 1) := by
  have hx : L[i]? = some L[i] := List.getElem?_eq_getElem hl
  have hp : p L[i] = true := by
    subst hi
    exact List.findIdx_getElem
  refine ⟨rfl, ?_, rfl, by omega⟩
  rw [take_snoc hx, List.filter_append]
  simp only [List.filter_cons, hp, List.filter_nil]
  have : (L.take i).filter (fun x => !p x) = L.take i := by
    rw [List.filter_eq_self]
    intro y hy
    obtain ⟨k, hk, rfl⟩ := List.mem_take_iff_getElem.1 hy
    have := List.not_of_lt_findIdx (p := p) (xs := L) (i := k) (by omega)
    simpa using this
  rw [this]
  simp

theorem zero_int (w : World) : (zeroValue 3).run Try.prog w = .ok (.int .i64 0) w := by kernel_rfl
set_option maxHeartbeats 1000000 in
theorem deleteFunc_int (w : World) (base g n c : Nat) (L : List Int) (hl : Hid (L.length = n)) (hown : w.ownsRow base 3 1 (.slice (some ⟨g, 0, none⟩) n c) n (L.map (Value.int .i64))) (hn : n ≤ 1048576) (pa pb : Value) (p : Int → Bool)
    (hp : PredOk 22 pa pb w g L p) :
    Calls Try.prog 21 #[.slice (some ⟨g, 0, none⟩) n c, .func (.func 22) #[] #[pa, pb]] w fun e w' =>
      ∃ m, e = .returned (.slice (some ⟨g, 0, none⟩) m c) ∧ w'.ownsRow base 3 1 (.slice (some ⟨g, 0, none⟩) m c) m ((L.filter fun x => !p x).map (Value.int .i64)) ∧ w.grownBy w' (some g) := by
  obtain ⟨T, hblk, hbg, hnc, hcm, hlen, hln⟩ := ownsRow_blk hown
  have Hlen := Lib.hid hlen
  have Hln := Lib.hid hln
  have Hown := Lib.hid hown
  have hr : w.rangeAt g 0 (L.map (Value.int .i64)) := fun j v hv => by
    have := hblk.range j v (by rw [List.getElem?_append_left (List.getElem?_eq_some_iff.1 hv).1]; exact hv)
    exact this
  unfold maxLen at hcm
  by_cases hf : L.findIdx p < n
  · obtain ⟨i, hi⟩ : ∃ i, i = L.findIdx p := ⟨_, rfl⟩
    have e1 : idxI p L n = (i : Int) := by rw [idxI, if_pos hf, hi]
    have hin : i < n := by omega
    have hst := DelAt.start hi.symm (by rw [hl.out]; omega)
    have E1 := Lib.hid e1
    have Hst := Lib.hid hst
    have hne : ((i : Int) == -1) = false := beq_eq_false_iff_ne.2 (by omega)
    clear hlen hln hown hi hf e1 hst
    go_enter Try.func21, Try.ntmps21
    go_wp2_with fail
    refine (indexFunc_int w g n c L hl hr hn pa pb p hp).mono ?_
    rintro e w1 ⟨rfl, hb1⟩
    rw [E1.out]
    have hg1 : w.grownBy w1 (some g) := grownBy_step (grownBy_refl w g) hb1
    have hk1 := hblk.below hb1 hblk.lt
    clear hblk hr
    go_wp2_with fail
    go_loopw [5, 6] (fun i j wr => ∃ (a k : Nat) (C : List Int), a < k ∧ k ≤ n ∧ i = .int .i64 a ∧ j = .int .i64 k ∧ DelAt p L C a k ∧ Blk wr g 3 (C.map (Value.int .i64) ++ T).toArray ∧ w.grownBy wr (some g)) (fun _ j _ => n - (intOf j).toNat)
    case atStart => exact ⟨i, i + 1, L, by omega, by omega, rfl, by go_num, Hst.out, hk1, hg1⟩
    case round =>
      obtain ⟨a, k, C, hak, hk, rfl, rfl, hD, hblk, hG⟩ := hrel
      have hC := hD.len
      have HC := Lib.hid hC
      clear hC
      by_cases hlt : k < n
      · obtain ⟨x, hx⟩ : ∃ x, L[k]? = some x := ⟨_, List.getElem?_eq_getElem (by rw [hl.out]; exact hlt)⟩
        have c0 : wr.cell? ⟨g, k, none⟩ = some (.int .i64 x) := by
          rw [hblk.cell]
          simp only [List.getElem?_toArray]
          rw [List.getElem?_append_left (by rw [List.length_map, HC.out, hl.out]; exact hlt), List.getElem?_map, hD.at_ hx]
          rfl
        have Hx := Lib.hid hx
        clear hx
        go_wp2_with fail
        refine (hp wr x hG (List.mem_of_getElem? Hx.out)).mono ?_
        rintro e w2 ⟨rfl, hb2⟩
        have hG2 := grownBy_step hG hb2
        have hblk2 := hblk.below hb2 hblk.lt
        clear c0
        cases hpx : p x
        · have Hp := Lib.hid hpx
          have ca : ∃ v, w2.cell? ⟨g, a, none⟩ = some v := ⟨_, by
            rw [hblk2.cell]
            simp only [List.getElem?_toArray]
            exact List.getElem?_eq_getElem (by rw [List.length_append, List.length_map, HC.out, hl.out]; omega)⟩
          obtain ⟨v, hv⟩ := ca
          have hfr := hblk2.free a
          clear hpx
          go_wp2_with fail
          go_roundw
          case rel => exact ⟨a + 1, k + 1, C.set a x, by omega, by omega, by go_num, by go_num, hD.put Hx.out Hp.out, by
            have := hblk2.set_ a (.int .i64 x)
            rw [List.set_append_left _ _ (by rw [List.length_map, HC.out, hl.out]; omega), ← List.map_set] at this
            exact this, grownBy_trans hG2 (grownBy_setCell _ _ _ _)⟩
          case measure => simp [intOf]; omega
        · have Hp := Lib.hid hpx
          clear hpx
          go_wp2_with fail
          go_roundw
          case rel => exact ⟨a, k + 1, C, by omega, by omega, rfl, by go_num, hD.skip Hx.out Hp.out, hblk2, hG2⟩
          case measure => simp [intOf]; omega
      · obtain rfl : n = k := by omega
        have ha : a < c := by omega
        have hne2 : ¬ c = a := by omega
        go_wp2_with (refine wpList_clear rfl (.tmp 38) 28 rfl 3 (.int .i64 0) Try.underlying28 zero_int rfl rfl g a (n - a) (c - a) _ (by rfl) hblk ?hn ?hfit ?_)
        case hn => omega
        case hfit => rw [List.length_append, List.length_map, HC.out, hl.out]; omega
        intro w3 hblk3 hg3
        have hdone := hD.done
        rw [show L.take n = L from List.take_of_length_le (by rw [hl.out]; omega)] at hdone
        have Hdone := Lib.hid hdone
        clear hdone
        go_wp2_with fail
        go_ret
        refine ⟨a, rfl, ?_, grownBy_trans hG hg3⟩
        have hmap : (C.map (Value.int .i64) ++ T).take a = (L.filter fun x => !p x).map (Value.int .i64) := by
          rw [List.take_append_of_le_length (by rw [List.length_map, HC.out, hl.out]; omega), ← List.map_take, Hdone.out]
        rw [hmap] at hblk3
        have hla : ((L.filter fun x => !p x).map (Value.int .i64)).length = a * 1 := by
          rw [← hmap, List.length_take, List.length_append, List.length_map, HC.out, hl.out]; omega
        refine blk_ownsRow hblk3 hbg (by omega) (by unfold maxLen; omega) ?_ hla
        have h1 := Hlen.out
        have h2 := Hln.out
        rw [List.length_append] at h1
        simp only [List.length_append, List.length_replicate, List.length_drop, List.length_map] at hla h1 h2 ⊢
        rw [HC.out, hla]
        omega
  · have e1 : idxI p L n = -1 := by rw [idxI, if_neg hf]
    have E1 := Lib.hid e1
    have hfl : (L.filter fun x => !p x) = L := by
      rw [List.filter_eq_self]
      intro y hy
      obtain ⟨k, hk, rfl⟩ := List.mem_iff_getElem.1 hy
      have hl' := hl.out
      have := List.not_of_lt_findIdx (p := p) (xs := L) (i := k) (by omega)
      simpa using this
    have Hfl := Lib.hid hfl
    clear hlen hln hown hf e1 hfl hblk
    go_enter Try.func21, Try.ntmps21
    go_wp2_with fail
    refine (indexFunc_int w g n c L hl hr hn pa pb p hp).mono ?_
    rintro e w1 ⟨rfl, hb1⟩
    rw [E1.out]
    have hg1 : w.grownBy w1 (some g) := grownBy_step (grownBy_refl w g) hb1
    go_wp2_with fail
    go_ret
    refine ⟨n, rfl, ?_, hg1⟩
    rw [Hfl.out]
    exact Hown.out.kept (grownBy_of_below hb1) (by simp [Value.ownBlock])

end Go.Proofs.Ytngfabnkgpidjaa
