/- carrefourlaw03.at and head. -/
import Derived.Test.YthiodgnklfbmjaaPsI
namespace Go.Proofs.Ythiodgnklfbmjaa
open Go.RowKit
set_option linter.unusedVariables false

theorem ofE_small {xs : List Pfx} (h : xs.length ≤ 4096) (hg : xs.all Pfx.good = true) : ofE xs = 0 := by
  unfold ofE
  rw [if_neg (by omega), if_pos hg, if_neg (by have h1 := compactN_le (sortL xs) xs.length; omega)]
theorem ofL_spec {xs : List Pfx} (h : ofE xs = 0) : sortedP (ofL xs) ∧ (∀ p, p ∈ ofL xs ↔ p ∈ xs) ∧ (ofL xs).length ≤ 4096 := by
  have hl : ofL xs = compactN (sortL xs) xs.length := by unfold ofL; rw [if_pos h]
  have h1 := compactN_spec (sortL_sorted xs) xs.length (by rw [sortL_len]; exact Nat.le_refl _)
  rw [hl]
  refine ⟨h1.1, fun p => ?_, ?_⟩
  · rw [h1.2.1 p, List.take_of_length_le (by rw [sortL_len]; exact Nat.le_refl _)]
    exact (sortL_perm xs).mem_iff
  · unfold ofE at h
    split at h
    · cases h
    · split at h
      · split at h
        · cases h
        · omega
      · cases h
theorem ofL_bad {xs : List Pfx} (h : ofE xs ≠ 0) : ofL xs = [] := by unfold ofL; rw [if_neg h]
theorem ofL_sorted (xs : List Pfx) : sortedP (ofL xs) ∧ (ofL xs).length ≤ 4096 := by
  by_cases h : ofE xs = 0
  · exact ⟨(ofL_spec h).1, (ofL_spec h).2.2⟩
  · rw [ofL_bad h]; exact ⟨.nil, by simp⟩
theorem sorted_unique : ∀ {xs ys : List Pfx}, sortedP xs → sortedP ys → (∀ p, p ∈ xs ↔ p ∈ ys) → xs = ys
  | [], [], _, _, _ => rfl
  | [], y :: s, _, _, h => absurd ((h y).2 (by simp)) (by simp)
  | x :: r, [], _, _, h => absurd ((h x).1 (by simp)) (by simp)
  | x :: r, y :: s, h1, h2, h => by
    have a1 := List.pairwise_cons.1 h1
    have a2 := List.pairwise_cons.1 h2
    have hxy : x = y := by
      rcases List.mem_cons.1 ((h x).1 (by simp)) with e | e
      · exact e
      · rcases List.mem_cons.1 ((h y).2 (by simp)) with e2 | e2
        · exact e2.symm
        · have b1 := a2.1 x e
          have b2 := a1.1 y e2
          rw [cmpP_lt] at b1 b2
          omega
    subst hxy
    have hn : ∀ {l : List Pfx}, (∀ z ∈ l, cmpP x z < 0) → x ∉ l := fun hl hx => by
      have := hl x hx
      rw [cmpP_lt] at this
      omega
    rw [sorted_unique a1.2 a2.2 fun p => ?_]
    have hp := h p
    rw [List.mem_cons, List.mem_cons] at hp
    constructor
    · intro h3
      rcases hp.1 (.inr h3) with e | e
      · exact absurd (e ▸ h3) (hn a1.1)
      · exact e
    · intro h3
      rcases hp.2 (.inr h3) with e | e
      · exact absurd (e ▸ h3) (hn a2.1)
      · exact e
def pN (n : Int) : Pfx := ⟨n * 16777216, 8⟩
theorem pN_fits (n : Int) (h1 : 0 ≤ n) (h2 : n ≤ 255) : (pN n).Fits := ⟨by simp [pN]; omega, by simp [pN]⟩
set_option maxHeartbeats 1000000 in
theorem law_at1 (w : World) : Calls Try.prog 30 #[.int .i64 1] w fun e w' => e = .returned (.agg #[.int .u32 16777216, .int .i64 8]) ∧ Below w.heap.size w w' := by
  go_enter Try.func30, Try.ntmps30
  go_wp2_with fail
  refine bodyPost_ret (results_cell_row rfl _ _ w.heap.size 35 _ (0, 0) _ rfl (Blk.new w 35 #[.int .u32 16777216, .int .i64 8]).heap Try.underlying35 rfl rfl) rfl ?_
  exact ⟨rfl, (Below.refl _ _).alloc (Nat.le_refl _) _⟩
set_option maxHeartbeats 1000000 in
theorem law_at2 (w : World) : Calls Try.prog 30 #[.int .i64 2] w fun e w' => e = .returned (.agg #[.int .u32 33554432, .int .i64 8]) ∧ Below w.heap.size w w' := by
  go_enter Try.func30, Try.ntmps30
  go_wp2_with fail
  refine bodyPost_ret (results_cell_row rfl _ _ w.heap.size 35 _ (0, 0) _ rfl (Blk.new w 35 #[.int .u32 33554432, .int .i64 8]).heap Try.underlying35 rfl rfl) rfl ?_
  exact ⟨rfl, (Below.refl _ _).alloc (Nat.le_refl _) _⟩
set_option maxHeartbeats 1000000 in
theorem law_at3 (w : World) : Calls Try.prog 30 #[.int .i64 3] w fun e w' => e = .returned (.agg #[.int .u32 50331648, .int .i64 8]) ∧ Below w.heap.size w w' := by
  go_enter Try.func30, Try.ntmps30
  go_wp2_with fail
  refine bodyPost_ret (results_cell_row rfl _ _ w.heap.size 35 _ (0, 0) _ rfl (Blk.new w 35 #[.int .u32 50331648, .int .i64 8]).heap Try.underlying35 rfl rfl) rfl ?_
  exact ⟨rfl, (Below.refl _ _).alloc (Nat.le_refl _) _⟩
theorem of_lit (w : World) (F : Nat → Prop) (hF : InF F w) (cs : List Value) (xs ys : List Pfx) (n m : Nat) (hcs : cs = pcells xs) (hf : ∀ x ∈ xs, x.Fits) (h0 : ofE xs = 0) (h1 : ofL xs = ys) (hn : xs.length = n) (hm : ys.length = m) (hn2 : n ≤ 1048576) :
    Calls Try.prog 16 #[.slice (some ⟨w.heap.size, 0, none⟩) n n] (w.alloc (.cells cs.toArray 35)) fun e w' => ∃ A c F', e = .returned (.tuple #[.agg #[.slice A m c], .int .i64 0]) ∧ Grew w F w' F' ∧ listR 2 pfxR w' F' [.slice A m c] ys := by
  subst hcs
  subst hm
  have hb : Below w.heap.size w (w.alloc (.cells (pcells xs).toArray 35)) := (Below.refl _ _).alloc (Nat.le_refl _) _
  have hl := listR_lit pfxR_ok (F := F) (w := w.alloc (.cells (pcells xs).toArray 35)) (pgroups_mk hf) (g := w.heap.size) hn hn2 (rangeAt_new w _ _)
  have hF1 : InF (fun b => F b ∨ b = w.heap.size) (w.alloc (.cells (pcells xs).toArray 35)) := fun b h => by
    simp only [World.size_alloc]
    rcases h with h | h
    · have := hF b h; omega
    · omega
  refine (set_Of _ _ _ n n xs hl hF1).mono ?_
  rintro e w' ⟨A', m, c', F', rfl, hg, hl'⟩
  rw [h1] at hl'
  have hm := hl'.len.1
  subst hm
  refine ⟨A', c', F', by rw [h0], ⟨below_step hb hg.below, fun b h => hg.sub b (.inl h), fun b h => ?_, hg.lt⟩, hl'⟩
  rcases hg.fresh b h with h | h
  · rcases h with h | h
    · exact .inl h
    · exact .inr (by omega)
  · simp only [World.size_alloc] at h
    exact .inr (by omega)

theorem head_of {xs ys : List Pfx} (h : xs.length ≤ 4096) (hg : xs.all Pfx.good = true) (hs : sortedP ys) (hm : ∀ p, p ∈ xs ↔ p ∈ ys) : ofE xs = 0 ∧ ofL xs = ys := by
  have h0 := ofE_small h hg
  have h1 := ofL_spec h0
  exact ⟨h0, sorted_unique h1.1 hs fun p => by rw [h1.2.1, hm]⟩
abbrev p1 : Pfx := ⟨16777216, 8⟩
abbrev p2 : Pfx := ⟨33554432, 8⟩
abbrev p3 : Pfx := ⟨50331648, 8⟩
theorem pgood : p1.good = true ∧ p2.good = true ∧ p3.good = true := by
  refine ⟨?_, ?_, ?_⟩ <;> rfl
theorem pfits : p1.Fits ∧ p2.Fits ∧ p3.Fits := by
  refine ⟨⟨?_, ?_⟩, ⟨?_, ?_⟩, ⟨?_, ?_⟩⟩ <;> decide
theorem plt : cmpP p1 p2 < 0 ∧ cmpP p1 p3 < 0 ∧ cmpP p2 p3 < 0 := by
  refine ⟨?_, ?_, ?_⟩ <;> decide
theorem head1 : ofE [p3, p1, p2, p1] = 0 ∧ ofL [p3, p1, p2, p1] = [p1, p2, p3] := head_of (by simp) (by simp [pgood]) (by simp [sortedP, plt]) (by intro p; simp only [List.mem_cons, List.not_mem_nil, or_false]; exact ⟨by rintro (h | h | h | h) <;> simp [h], by rintro (h | h | h) <;> simp [h]⟩)
theorem head2 : ofE [p1, p2] = 0 ∧ ofL [p1, p2] = [p1, p2] := head_of (by simp) (by simp [pgood]) (by simp [sortedP, plt]) (by simp)
theorem head3 : ofE [p2] = 0 ∧ ofL [p2] = [p2] := head_of (by simp) (by simp [pgood]) (by simp [sortedP]) (by simp)
theorem head4 : ofE [p1, p3] = 0 ∧ ofL [p1, p3] = [p1, p3] := head_of (by simp) (by simp [pgood]) (by simp [sortedP, plt]) (by simp)
theorem head5 : groupL [[p1, p2], [p2]] [p1, p2, p3] = [[p1], [p2], [p3]] := by rfl
theorem head6 : groupL [[p1, p3]] [p1, p2, p3] = [[p1, p3], [p2]] := by rfl

structure HSt (w w' : World) (F : Nat → Prop) (fs : List (Nat × Value × List Pfx)) : Prop where
  grew : Grew w NoF w' F
  fact : ∀ x ∈ fs, Blk w' x.1 26 #[x.2.1] ∧ listR 2 pfxR w' F [x.2.1] x.2.2
theorem HSt.go {w w' w2 : World} {F F2 : Nat → Prop} {fs : List (Nat × Value × List Pfx)} (h : HSt w w' F fs) (hg : Grew w' F w2 F2) : HSt w w2 F2 fs :=
  ⟨h.grew.trans hg, fun x hx => ⟨(h.fact x hx).1.below hg.below (h.fact x hx).1.lt, (listR_ok pfxR_ok).grew (h.fact x hx).2 hg h.grew.lt⟩⟩
theorem HSt.step {w w' w2 : World} {F : Nat → Prop} {fs : List (Nat × Value × List Pfx)} (h : HSt w w' F fs) (hb : Below w'.heap.size w' w2) : HSt w w2 F fs :=
  h.go ⟨hb, fun _ h => h, fun _ h => .inl h, h.grew.lt.mono hb.size⟩
theorem HSt.new {w w' : World} {F : Nat → Prop} {fs : List (Nat × Value × List Pfx)} {v : Value} {xs : List Pfx} (h : HSt w w' F fs) (hl : listR 2 pfxR w' F [v] xs) : HSt w (w'.alloc (.cells #[v] 26)) F ((w'.heap.size, v, xs) :: fs) := by
  have h2 := h.step ((Below.refl w'.heap.size w').alloc (Nat.le_refl _) (.cells #[v] 26))
  refine ⟨h2.grew, fun x hx => ?_⟩
  rcases List.mem_cons.1 hx with rfl | hx
  · exact ⟨Blk.new _ _ _, (listR_ok pfxR_ok).below hl ((Below.refl w'.heap.size w').alloc (Nat.le_refl _) _) h.grew.lt⟩
  · exact h2.fact x hx

theorem head_Of1 (w : World) (F : Nat → Prop) (hF : InF F w) : Calls Try.prog 16 #[.slice (some ⟨w.heap.size, 0, none⟩) 4 4] (w.alloc (.cells #[.int .u32 50331648, .int .i64 8, .int .u32 16777216, .int .i64 8, .int .u32 33554432, .int .i64 8, .int .u32 16777216, .int .i64 8] 35)) fun e w' => ∃ A c F', e = .returned (.tuple #[.agg #[.slice A 3 c], .int .i64 0]) ∧ Grew w F w' F' ∧ listR 2 pfxR w' F' [.slice A 3 c] [p1, p2, p3] :=
  of_lit w F hF [.int .u32 50331648, .int .i64 8, .int .u32 16777216, .int .i64 8, .int .u32 33554432, .int .i64 8, .int .u32 16777216, .int .i64 8] [p3, p1, p2, p1] [p1, p2, p3] 4 3 rfl (by simp [pfits]) head1.1 head1.2 rfl rfl (by decide)
theorem head_Of2 (w : World) (F : Nat → Prop) (hF : InF F w) : Calls Try.prog 16 #[.slice (some ⟨w.heap.size, 0, none⟩) 2 2] (w.alloc (.cells #[.int .u32 16777216, .int .i64 8, .int .u32 33554432, .int .i64 8] 35)) fun e w' => ∃ A c F', e = .returned (.tuple #[.agg #[.slice A 2 c], .int .i64 0]) ∧ Grew w F w' F' ∧ listR 2 pfxR w' F' [.slice A 2 c] [p1, p2] :=
  of_lit w F hF [.int .u32 16777216, .int .i64 8, .int .u32 33554432, .int .i64 8] [p1, p2] [p1, p2] 2 2 rfl (by simp [pfits]) head2.1 head2.2 rfl rfl (by decide)
theorem head_Of3 (w : World) (F : Nat → Prop) (hF : InF F w) : Calls Try.prog 16 #[.slice (some ⟨w.heap.size, 0, none⟩) 1 1] (w.alloc (.cells #[.int .u32 33554432, .int .i64 8] 35)) fun e w' => ∃ A c F', e = .returned (.tuple #[.agg #[.slice A 1 c], .int .i64 0]) ∧ Grew w F w' F' ∧ listR 2 pfxR w' F' [.slice A 1 c] [p2] :=
  of_lit w F hF [.int .u32 33554432, .int .i64 8] [p2] [p2] 1 1 rfl (by simp [pfits]) head3.1 head3.2 rfl rfl (by decide)
theorem head_Of4 (w : World) (F : Nat → Prop) (hF : InF F w) : Calls Try.prog 16 #[.slice (some ⟨w.heap.size, 0, none⟩) 2 2] (w.alloc (.cells #[.int .u32 16777216, .int .i64 8, .int .u32 50331648, .int .i64 8] 35)) fun e w' => ∃ A c F', e = .returned (.tuple #[.agg #[.slice A 2 c], .int .i64 0]) ∧ Grew w F w' F' ∧ listR 2 pfxR w' F' [.slice A 2 c] [p1, p3] :=
  of_lit w F hF [.int .u32 16777216, .int .i64 8, .int .u32 50331648, .int .i64 8] [p1, p3] [p1, p3] 2 2 rfl (by simp [pfits]) head4.1 head4.2 rfl rfl (by decide)

theorem listR_two {w : World} {F : Nat → Prop} {vs : List Value} {xss : List (List Pfx)} (g n : Nat) (hn : xss.length = n) (hn2 : n ≤ 1048576) (hg : Groups (listR 2 pfxR) w F vs xss) (hr : w.rangeAt g 0 vs) : listR 1 (listR 2 pfxR) w (fun b => F b ∨ b = g) [.slice (some ⟨g, 0, none⟩) n n] xss :=
  listR_lit (listR_ok pfxR_ok) hg hn hn2 hr
theorem group_lit (w : World) (F : Nat → Prop) (hF : InF F w) (A : Option Addr) (n c : Nat) (all : List Pfx) (vs : List Value) (bys r : List (List Pfx)) (nb m : Nat) (hl : listR 2 pfxR w F [.slice A n c] all) (hg : Groups (listR 2 pfxR) w F vs bys) (hs : ∀ s ∈ bys, sortedP s ∧ s.length ≤ 1073741824)
    (hr : groupL bys all = r) (hm : r.length = m) (hn : n ≤ 1048576) (hnb : bys.length = nb) (hnb2 : nb ≤ 1048576) :
    Calls Try.prog 11 #[.agg #[.slice A n c], .slice (some ⟨w.heap.size, 0, none⟩) nb nb] (w.alloc (.cells vs.toArray 26)) fun e w' => ∃ A' c' F', e = .returned (.slice A' m c') ∧ Grew w F w' F' ∧ listR 1 (listR 2 pfxR) w' F' [.slice A' m c'] r := by
  subst hr
  subst hm
  have hb : Below w.heap.size w (w.alloc (.cells vs.toArray 26)) := (Below.refl _ _).alloc (Nat.le_refl _) _
  have hF1 : InF (fun b => F b ∨ b = w.heap.size) (w.alloc (.cells vs.toArray 26)) := fun b h => by
    simp only [World.size_alloc]
    rcases h with h | h
    · have := hF b h; omega
    · omega
  have hg' := hg.keep (listR_ok pfxR_ok) (w' := w.alloc (.cells vs.toArray 26)) (F' := F) (fun b hb' => hb.block b (hF b hb')) fun _ h => h
  have hl2 := listR_two (F := F) w.heap.size nb hnb hnb2 hg' (rangeAt_new w _ _)
  have hl1 := (listR_ok pfxR_ok).keep hl (F' := fun b => F b ∨ b = w.heap.size) (fun b hb' => hb.block b (hF b hb')) fun _ h => .inl h
  refine (set_Group _ _ _ n c all _ nb nb bys hl1 hl2 hF1 hs hn hnb2).mono ?_
  rintro e w' ⟨A', m, c', F', rfl, hgr, hl'⟩
  have hm := hl'.len.1
  subst hm
  refine ⟨A', c', F', rfl, ⟨below_step hb hgr.below, fun b h => hgr.sub b (.inl h), fun b h => ?_, hgr.lt⟩, hl'⟩
  rcases hgr.fresh b h with h | h
  · rcases h with h | h
    · exact .inl h
    · exact .inr (by omega)
  · simp only [World.size_alloc] at h
    exact .inr (by omega)
theorem head_G1 (w : World) (F : Nat → Prop) (hF : InF F w) {A1 A2 A3 : Option Addr} {c1 c2 c3 : Nat} (l1 : listR 2 pfxR w F [.slice A1 3 c1] [p1, p2, p3]) (l2 : listR 2 pfxR w F [.slice A2 2 c2] [p1, p2]) (l3 : listR 2 pfxR w F [.slice A3 1 c3] [p2]) :
    Calls Try.prog 11 #[.agg #[.slice A1 3 c1], .slice (some ⟨w.heap.size, 0, none⟩) 2 2] (w.alloc (.cells #[.slice A2 2 c2, .slice A3 1 c3] 26)) fun e w' => ∃ A' c' F', e = .returned (.slice A' 3 c') ∧ Grew w F w' F' ∧ listR 1 (listR 2 pfxR) w' F' [.slice A' 3 c'] [[p1], [p2], [p3]] :=
  group_lit w F hF A1 3 c1 [p1, p2, p3] [.slice A2 2 c2, .slice A3 1 c3] [[p1, p2], [p2]] [[p1], [p2], [p3]] 2 3 l1 ⟨[_], [_], rfl, l2, [_], [], rfl, l3, rfl⟩ (by simp [sortedP, plt]) head5 rfl (by decide) rfl (by decide)
theorem head_G2 (w : World) (F : Nat → Prop) (hF : InF F w) {A1 A4 : Option Addr} {c1 c4 : Nat} (l1 : listR 2 pfxR w F [.slice A1 3 c1] [p1, p2, p3]) (l4 : listR 2 pfxR w F [.slice A4 2 c4] [p1, p3]) :
    Calls Try.prog 11 #[.agg #[.slice A1 3 c1], .slice (some ⟨w.heap.size, 0, none⟩) 1 1] (w.alloc (.cells #[.slice A4 2 c4] 26)) fun e w' => ∃ A' c' F', e = .returned (.slice A' 2 c') ∧ Grew w F w' F' ∧ listR 1 (listR 2 pfxR) w' F' [.slice A' 2 c'] [[p1, p3], [p2]] :=
  group_lit w F hF A1 3 c1 [p1, p2, p3] [.slice A4 2 c4] [[p1, p3]] [[p1, p3], [p2]] 1 2 l1 ⟨[_], [], rfl, l4, rfl⟩ (by simp [sortedP, plt]) head6 rfl (by decide) rfl (by decide)

set_option maxRecDepth 100000 in
set_option maxHeartbeats 1000000 in
theorem law_head (w : World) : Calls Try.prog 9 #[] w fun e w' => e = .returned (.bool true) ∧ Below w.heap.size w w' := by
  have HS : Hid (HSt w w NoF []) := Lib.hid ⟨Grew.refl (noF_in w), by simp⟩
  go_enter Try.func9, Try.ntmps9
  go_upto_region 5 with (first
    | (go_at_call 30; (with_reducible refine (law_at1 _).mono ?_); rintro e v ⟨rfl, hv⟩; replace HS := Lib.hid (HS.out.step hv); clear hv)
    | (go_at_call 30; (with_reducible refine (law_at2 _).mono ?_); rintro e v ⟨rfl, hv⟩; replace HS := Lib.hid (HS.out.step hv); clear hv)
    | (go_at_call 30; (with_reducible refine (law_at3 _).mono ?_); rintro e v ⟨rfl, hv⟩; replace HS := Lib.hid (HS.out.step hv); clear hv)
    | (go_at_call 16; (with_reducible refine (head_Of1 _ _ HS.out.grew.lt).mono ?_); rintro e v ⟨A1, c1, F1, rfl, hg, hl⟩; replace HS := Lib.hid ((HS.out.go hg).new hl); clear hg hl)
    | (go_at_call 16; (with_reducible refine (head_Of2 _ _ HS.out.grew.lt).mono ?_); rintro e v ⟨A2, c2, F1, rfl, hg, hl⟩; replace HS := Lib.hid ((HS.out.go hg).new hl); clear hg hl)
    | (go_at_call 16; (with_reducible refine (head_Of3 _ _ HS.out.grew.lt).mono ?_); rintro e v ⟨A3, c3, F1, rfl, hg, hl⟩; replace HS := Lib.hid ((HS.out.go hg).new hl); clear hg hl)
    | (go_at_call 16; (with_reducible refine (head_Of4 _ _ HS.out.grew.lt).mono ?_); rintro e v ⟨A4, c4, F1, rfl, hg, hl⟩; replace HS := Lib.hid ((HS.out.go hg).new hl); clear hg hl))
  refine wp_gen (fun W => HSt w W _ _) HS.out ?_
  rintro W hW
  replace HS := Lib.hid hW
  clear hW
  have hall := HS.out.fact
  simp only [List.forall_mem_cons] at hall
  obtain ⟨⟨k4, l4⟩, ⟨k3, l3⟩, ⟨k2, l2⟩, ⟨k1, l1⟩, _⟩ := hall
  have r1 := k1.cell 0
  have r2 := k2.cell 0
  have r3 := k3.cell 0
  have r4 := k4.cell 0
  simp only [List.getElem?_toArray, List.getElem?_cons_zero] at r1 r2 r3 r4
  have L1 := Lib.hid l1
  have L2 := Lib.hid l2
  have L3 := Lib.hid l3
  have L4 := Lib.hid l4
  clear k1 k2 k3 k4 l1 l2 l3 l4
  go_upto_region 7 with (first
    | (go_at_call 15; (with_reducible refine (set_Len _ _ _ _).mono ?_); rintro e v ⟨rfl, hv⟩; replace HS := Lib.hid (HS.out.step hv); clear hv r1 r2 r3 r4 L1 L2 L3 L4; have hall := HS.out.fact; simp only [List.forall_mem_cons] at hall; obtain ⟨⟨k4, l4⟩, ⟨k3, l3⟩, ⟨k2, l2⟩, ⟨k1, l1⟩, _⟩ := hall; have r1 := k1.cell 0; have r2 := k2.cell 0; have r3 := k3.cell 0; have r4 := k4.cell 0; simp only [List.getElem?_toArray, List.getElem?_cons_zero] at r1 r2 r3 r4; have L1 := Lib.hid l1; have L2 := Lib.hid l2; have L3 := Lib.hid l3; have L4 := Lib.hid l4; clear k1 k2 k3 k4 l1 l2 l3 l4))
  go_wp2_with (first
    | (go_at_call 11; (with_reducible refine (head_G1 _ _ HS.out.grew.lt L1.out L2.out L3.out).mono ?_); rintro e v ⟨A5, c5, F5, rfl, hg, hl⟩; replace HS := Lib.hid (HS.out.go hg); clear hg hl r1 r2 r3 r4 L1 L2 L3 L4; have hall := HS.out.fact; simp only [List.forall_mem_cons] at hall; obtain ⟨⟨k4, l4⟩, ⟨k3, l3⟩, ⟨k2, l2⟩, ⟨k1, l1⟩, _⟩ := hall; have r1 := k1.cell 0; have r2 := k2.cell 0; have r3 := k3.cell 0; have r4 := k4.cell 0; simp only [List.getElem?_toArray, List.getElem?_cons_zero] at r1 r2 r3 r4; have L1 := Lib.hid l1; have L2 := Lib.hid l2; have L3 := Lib.hid l3; have L4 := Lib.hid l4; clear k1 k2 k3 k4 l1 l2 l3 l4)
    | (go_at_call 11; (with_reducible refine (head_G2 _ _ HS.out.grew.lt L1.out L4.out).mono ?_); rintro e v ⟨A6, c6, F6, rfl, hg, hl⟩; replace HS := Lib.hid (HS.out.go hg); have HQ := Lib.hid hl; clear hg hl r1 r2 r3 r4 L1 L2 L3 L4; have hall := HS.out.fact; simp only [List.forall_mem_cons] at hall; obtain ⟨⟨k4, l4⟩, ⟨k3, l3⟩, ⟨k2, l2⟩, ⟨k1, l1⟩, _⟩ := hall; have r1 := k1.cell 0; have r2 := k2.cell 0; have r3 := k3.cell 0; have r4 := k4.cell 0; simp only [List.getElem?_toArray, List.getElem?_cons_zero] at r1 r2 r3 r4; have L1 := Lib.hid l1; have L2 := Lib.hid l2; have L3 := Lib.hid l3; have L4 := Lib.hid l4; clear k1 k2 k3 k4 l1 l2 l3 l4))
  obtain ⟨bq, oq, cs0, rfl, hFq, hq0, hr0⟩ := HQ.out.at_ (k := 0) (x := [p1, p3]) rfl
  obtain ⟨bq1, oq1, cs1, he, hFq1, hq1, hr1⟩ := HQ.out.at_ (k := 1) (x := [p2]) rfl
  simp only [Option.some.injEq, Addr.mk.injEq] at he
  obtain ⟨rfl, rfl, _⟩ := he
  obtain ⟨A7, c7, rfl⟩ := hq0.form
  obtain ⟨A8, c8, rfl⟩ := hq1.form
  change listR 2 pfxR _ _ [.slice A7 2 c7] _ at hq0
  change listR 2 pfxR _ _ [.slice A8 1 c8] _ at hq1
  change World.rangeAt _ _ _ [.slice A7 2 c7] at hr0
  change World.rangeAt _ _ _ [.slice A8 1 c8] at hr1
  have e0 : v.cell? ⟨bq, oq, none⟩ = some (.slice A7 2 c7) := by simpa using hr0 0 _ rfl
  have e1 : v.cell? ⟨bq, oq + 1, none⟩ = some (.slice A8 1 c8) := by simpa using hr1 0 _ rfl
  have HFv := Lib.hid HS.out.grew.lt
  have x0 : ∀ w', Below v.heap.size v w' → w'.cell? ⟨bq, oq, none⟩ = some (.slice A7 2 c7) := fun w' h => (h.cell (p := ⟨bq, oq, none⟩) (HFv.out _ hFq)).trans e0
  have x1 : ∀ w', Below v.heap.size v w' → w'.cell? ⟨bq, oq + 1, none⟩ = some (.slice A8 1 c8) := fun w' h => (h.cell (p := ⟨bq, oq + 1, none⟩) (HFv.out _ hFq)).trans e1
  have hall := HS.out.fact
  simp only [List.forall_mem_cons] at hall
  obtain ⟨⟨k4, l4⟩, ⟨k3, l3⟩, ⟨k2, l2⟩, ⟨k1, l1⟩, _⟩ := hall
  have x3 : ∀ w', Below v.heap.size v w' → w'.cell? ⟨_, 0, none⟩ = some (.slice A3 1 c3) := fun w' h => (k3.below h k3.lt).cell 0
  have x4 : ∀ w', Below v.heap.size v w' → w'.cell? ⟨_, 0, none⟩ = some (.slice A4 2 c4) := fun w' h => (k4.below h k4.lt).cell 0
  have hc1 := fun w' (h : Below v.heap.size v w') => set_Same w' F6 A7 A4 2 c7 2 c4 [p1, p3] [p1, p3] ((listR_ok pfxR_ok).below hq0 h HFv.out) ((listR_ok pfxR_ok).below L4.out h HFv.out) (HFv.out.below h)
  have hc2 := fun w' (h : Below v.heap.size v w') => set_Same w' F6 A8 A3 1 c8 1 c3 [p2] [p2] ((listR_ok pfxR_ok).below hq1 h HFv.out) ((listR_ok pfxR_ok).below L3.out h HFv.out) (HFv.out.below h)
  rw [show eqPs [p1, p3] [p1, p3] = true from rfl] at hc1
  rw [show eqPs [p2] [p2] = true from rfl] at hc2
  have Hc1 := Lib.hid hc1
  have Hc2 := Lib.hid hc2
  have HB := Lib.hid HS.out.grew.below
  clear hc1 hc2 k1 k2 k3 k4 l1 l2 l3 l4 r1 r2 r3 r4 e0 e1 hr0 hr1 hq0 hq1
  go_region_held3 (fun w' => Below v.heap.size v w') (first | (with_reducible exact below_step (by assumption) hb1') | (repeat' (first | (with_reducible exact Below.refl _ _) | (with_reducible assumption) | (with_reducible exact Below.size (by assumption)) | (with_reducible refine Below.drew ?_))))
    (first
      | (go_at_call 24; (with_reducible refine (Hc1.out _ ?_).mono ?_); assumption; rintro e u1 ⟨rfl, hb1'⟩; have hq : Below v.heap.size v u1 := below_step (by assumption) hb1')
      | (go_at_call 24; (with_reducible refine (Hc2.out _ ?_).mono ?_); assumption; rintro e u1 ⟨rfl, hb1'⟩; have hq : Below v.heap.size v u1 := below_step (by assumption) hb1')
      | fail)
  all_goals (go_wp2_with fail)
  all_goals go_ret
  all_goals exact ⟨rfl, below_step HB.out (by assumption)⟩
end Go.Proofs.Ythiodgnklfbmjaa
