/- Set.Or, And, Less. -/
import Derived.Test.YthiodgnklfbmjaaPsR
namespace Go.Proofs.Ythiodgnklfbmjaa
open Go.RowKit
set_option linter.unusedVariables false

def kOr : Bool → Bool → Bool := fun _ _ => true
def kAnd : Bool → Bool → Bool := fun a b => a && b
def kLess : Bool → Bool → Bool := fun a b => a && !b
theorem set_Or1 (a b : Bool) (w : World) : Calls Try.prog 45 #[.bool a, .bool b] w fun e w' => e = .returned (.bool (kOr a b)) ∧ w' = w := by
  go_enter Try.func45, Try.ntmps45
  go_wp2_with fail
  go_ret
  exact ⟨rfl, rfl⟩
theorem set_And1 (a b : Bool) (w : World) : Calls Try.prog 46 #[.bool a, .bool b] w fun e w' => e = .returned (.bool (kAnd a b)) ∧ w' = w := by
  cases a
  all_goals
    go_enter Try.func46, Try.ntmps46
    go_wp2_with fail
    go_ret
    exact ⟨rfl, rfl⟩
theorem set_Less1 (a b : Bool) (w : World) : Calls Try.prog 47 #[.bool a, .bool b] w fun e w' => e = .returned (.bool (kLess a b)) ∧ w' = w := by
  cases a
  all_goals
    go_enter Try.func47, Try.ntmps47
    go_wp2_with fail
    go_ret
    exact ⟨rfl, rfl⟩
theorem grew_set {w W w1 : World} {F F1 : Nat → Prop} {g : Nat} {x u : Value} {xs : List Pfx} (hW : Below w.heap.size w W) (hF : InF F w) (hg : Grew W F w1 F1) (h1 : w.heap.size ≤ g) (h2 : g < W.heap.size) (hl : listR 2 pfxR w1 F1 [x] xs) : Grew w F (w1.setCell ⟨g, 0, none⟩ u) F1 ∧ listR 2 pfxR (w1.setCell ⟨g, 0, none⟩ u) F1 [x] xs := by
  have hs := grownBy_setCell w1 g 0 u
  have hne : ∀ b, F1 b → b ≠ g := fun b hb => by
    rcases hg.fresh b hb with h | h
    · have := hF b h; omega
    · omega
  exact ⟨⟨below_grown (below_step hW hg.below) hs h1, hg.sub, fun b hb => (hg.fresh b hb).imp id fun h => Nat.le_trans hW.size h, fun b hb => Nat.lt_of_lt_of_le (hg.lt b hb) hs.size⟩, (listR_ok pfxR_ok).keep hl (fun b hb => hs.block b (hg.lt b hb) fun e => hne b hb (by cases e; rfl)) fun _ h => h⟩
theorem three_sets (w : World) (F : Nat → Prop) (A : Option Addr) (n c : Nat) (xs : List Pfx) (B : Option Addr) (m d : Nat) (ys : List Pfx) (hl : listR 2 pfxR w F [.slice A n c] xs) (hu : listR 2 pfxR w F [.slice B m d] ys) (hF : InF F w) :
    Below w.heap.size w (((w.alloc (.cells #[.slice A n c] 26)).alloc (.cells #[.slice B m d] 26)).alloc (.cells #[.slice none 0 0] 26)) ∧ Blk (((w.alloc (.cells #[.slice A n c] 26)).alloc (.cells #[.slice B m d] 26)).alloc (.cells #[.slice none 0 0] 26)) w.heap.size 26 #[.slice A n c] ∧ Blk (((w.alloc (.cells #[.slice A n c] 26)).alloc (.cells #[.slice B m d] 26)).alloc (.cells #[.slice none 0 0] 26)) (w.heap.size + 1) 26 #[.slice B m d] ∧ Blk (((w.alloc (.cells #[.slice A n c] 26)).alloc (.cells #[.slice B m d] 26)).alloc (.cells #[.slice none 0 0] 26)) (w.heap.size + 1 + 1) 26 #[.slice none 0 0] ∧
    listR 2 pfxR (((w.alloc (.cells #[.slice A n c] 26)).alloc (.cells #[.slice B m d] 26)).alloc (.cells #[.slice none 0 0] 26)) F [.slice A n c] xs ∧ listR 2 pfxR (((w.alloc (.cells #[.slice A n c] 26)).alloc (.cells #[.slice B m d] 26)).alloc (.cells #[.slice none 0 0] 26)) F [.slice B m d] ys := by
  have hb : Below w.heap.size w (((w.alloc (.cells #[.slice A n c] 26)).alloc (.cells #[.slice B m d] 26)).alloc (.cells #[.slice none 0 0] 26)) := (((Below.refl _ _).alloc (Nat.le_refl _) _).alloc (by simp) _).alloc (by simp; omega) _
  have b1 := Blk.new w 26 #[.slice A n c]
  have b2 := Blk.new (w.alloc (.cells #[.slice A n c] 26)) 26 #[.slice B m d]
  have b3 := Blk.new ((w.alloc (.cells #[.slice A n c] 26)).alloc (.cells #[.slice B m d] 26)) 26 #[.slice none 0 0]
  have s1 : Below (w.alloc (.cells #[.slice A n c] 26)).heap.size (w.alloc (.cells #[.slice A n c] 26)) ((w.alloc (.cells #[.slice A n c] 26)).alloc (.cells #[.slice B m d] 26)) := (Below.refl _ _).alloc (Nat.le_refl _) _
  have s2 : Below ((w.alloc (.cells #[.slice A n c] 26)).alloc (.cells #[.slice B m d] 26)).heap.size ((w.alloc (.cells #[.slice A n c] 26)).alloc (.cells #[.slice B m d] 26)) (((w.alloc (.cells #[.slice A n c] 26)).alloc (.cells #[.slice B m d] 26)).alloc (.cells #[.slice none 0 0] 26)) := (Below.refl _ _).alloc (Nat.le_refl _) _
  have c1 := (b1.below s1 b1.lt).below s2 (b1.below s1 b1.lt).lt
  have c2 := b2.below s2 b2.lt
  refine ⟨hb, c1, by simpa using c2, by simpa using b3, (listR_ok pfxR_ok).below hl hb hF, (listR_ok pfxR_ok).below hu hb hF⟩
def MPost (w : World) (F : Nat → Prop) (L : List Pfx) (e : Ending) (w' : World) : Prop := ∃ A' n' c' F', e = .returned (.tuple #[.agg #[.slice A' n' c'], .int .i64 (mergeE L)]) ∧ Grew w F w' F' ∧ listR 2 pfxR w' F' [.slice A' n' c'] (mergeR L)
def MPost1 (w : World) (F : Nat → Prop) (L : List Pfx) (e : Ending) (w' : World) : Prop := ∃ A' n' c' F', e = .returned (.agg #[.slice A' n' c']) ∧ Grew w F w' F' ∧ listR 2 pfxR w' F' [.slice A' n' c'] (mergeR L)
set_option maxHeartbeats 2000000 in
theorem set_Or (w : World) (F : Nat → Prop) (A : Option Addr) (n c : Nat) (xs : List Pfx) (B : Option Addr) (m d : Nat) (ys : List Pfx) (hl : listR 2 pfxR w F [.slice A n c] xs) (hu : listR 2 pfxR w F [.slice B m d] ys) (hF : InF F w) (hn : n ≤ 4096) (hm : m ≤ 4096) :
    Calls Try.prog 27 #[.agg #[.slice A n c], .agg #[.slice B m d]] w (MPost w F (mergeL kOr xs ys)) := by
  have HS := Lib.hid (three_sets w F A n c xs B m d ys hl hu hF)
  clear hl hu
  go_enter Try.func27, Try.ntmps27
  go_upto_region 1 with fail
  refine wp_gen (fun W => Below w.heap.size w W ∧ Blk W w.heap.size 26 #[.slice A n c] ∧ Blk W (w.heap.size + 1) 26 #[.slice B m d] ∧ Blk W (w.heap.size + 1 + 1) 26 #[.slice none 0 0] ∧ listR 2 pfxR W F [.slice A n c] xs ∧ listR 2 pfxR W F [.slice B m d] ys) HS.out ?_
  rintro W ⟨g1, g2, g3, g4, g5, g6⟩
  have H1 := Lib.hid g1
  have H4 := Lib.hid g4
  have H5 := Lib.hid (And.intro g5 g6)
  have x1 := g2.cell 0
  have x2 := g3.cell 0
  clear g1 g2 g3 g4 g5 g6
  go_wp2_with fail
  refine (set_mergeOr kOr set_Or1 W F A n c xs B m d ys H5.out.1 H5.out.2 (hF.below H1.out) hn hm).mono ?_
  rintro e w1 ⟨A', n', c', F', rfl, hg, hl⟩
  have hb := H4.out.below hg.below H4.out.lt
  have x3 := hb.cell 0
  have x4 := hb.free 0
  have HB := Lib.hid (fun v => hb.set_ (cs := [_]) 0 v)
  have HG := Lib.hid (fun u => grew_set (u := u) H1.out hF hg (show w.heap.size ≤ w.heap.size + 1 + 1 by omega) H4.out.lt hl)
  clear hb hg hl x1 x2
  go_wp2_with fail
  refine bodyPost_ret (results_cell_row_tmp rfl _ _ (w.heap.size + 1 + 1) 26 _ (0, 0) _ rfl (HB.out (.slice A' n' c')).heap Try.underlying26 rfl rfl) rfl ?_
  exact ⟨_, _, _, _, rfl, (HG.out _).1, (HG.out _).2⟩
set_option maxHeartbeats 2000000 in
theorem set_And (w : World) (F : Nat → Prop) (A : Option Addr) (n c : Nat) (xs : List Pfx) (B : Option Addr) (m d : Nat) (ys : List Pfx) (hl : listR 2 pfxR w F [.slice A n c] xs) (hu : listR 2 pfxR w F [.slice B m d] ys) (hF : InF F w) (hn : n ≤ 4096) (hm : m ≤ 4096) :
    Calls Try.prog 28 #[.agg #[.slice A n c], .agg #[.slice B m d]] w (MPost1 w F (mergeL kAnd xs ys)) := by
  have HS := Lib.hid (three_sets w F A n c xs B m d ys hl hu hF)
  clear hl hu
  go_enter Try.func28, Try.ntmps28
  go_upto_region 1 with fail
  refine wp_gen (fun W => Below w.heap.size w W ∧ Blk W w.heap.size 26 #[.slice A n c] ∧ Blk W (w.heap.size + 1) 26 #[.slice B m d] ∧ Blk W (w.heap.size + 1 + 1) 26 #[.slice none 0 0] ∧ listR 2 pfxR W F [.slice A n c] xs ∧ listR 2 pfxR W F [.slice B m d] ys) HS.out ?_
  rintro W ⟨g1, g2, g3, g4, g5, g6⟩
  have H1 := Lib.hid g1
  have H4 := Lib.hid g4
  have H5 := Lib.hid (And.intro g5 g6)
  have x1 := g2.cell 0
  have x2 := g3.cell 0
  clear g1 g2 g3 g4 g5 g6
  go_wp2_with fail
  refine (set_mergeAnd kAnd set_And1 W F A n c xs B m d ys H5.out.1 H5.out.2 (hF.below H1.out) hn hm).mono ?_
  rintro e w1 ⟨A', n', c', F', rfl, hg, hl⟩
  have hb := H4.out.below hg.below H4.out.lt
  have hb2 : Below w1.heap.size w1 (w1.alloc (.cells #[.slice A' n' c'] 26)) := (Below.refl _ _).alloc (Nat.le_refl _) _
  have HB0 := Lib.hid (hb.below hb2 hb.lt)
  have HG0 := Lib.hid (hg.alloc (.cells #[.slice A' n' c'] 26))
  have HL0 := Lib.hid ((listR_ok pfxR_ok).below hl hb2 hg.lt)
  have HN := Lib.hid (Blk.new w1 26 #[.slice A' n' c'])
  clear hb hg hl x1 x2 hb2
  go_upto_region 2 with fail
  refine wp_gen (fun W2 => Blk W2 (w.heap.size + 1 + 1) 26 #[.slice none 0 0] ∧ Grew W F W2 F' ∧ listR 2 pfxR W2 F' [.slice A' n' c'] _ ∧ Blk W2 w1.heap.size 26 #[.slice A' n' c']) ⟨HB0.out, HG0.out, HL0.out, HN.out⟩ ?_
  rintro W2 ⟨g1, g2, g3, g4⟩
  have x3 := g1.cell 0
  have x4 := g1.free 0
  have x5 := g4.cell 0
  have HB := Lib.hid (fun v => g1.set_ (cs := [_]) 0 v)
  have HG := Lib.hid (fun u => grew_set (u := u) H1.out hF g2 (show w.heap.size ≤ w.heap.size + 1 + 1 by omega) H4.out.lt g3)
  clear g1 g2 g3 g4
  go_wp2_with fail
  refine bodyPost_ret (results_cell_row rfl _ _ (w.heap.size + 1 + 1) 26 _ (0, 0) _ rfl (HB.out (.slice A' n' c')).heap Try.underlying26 rfl rfl) rfl ?_
  exact ⟨_, _, _, _, rfl, (HG.out _).1, (HG.out _).2⟩
set_option maxHeartbeats 2000000 in
theorem set_Less (w : World) (F : Nat → Prop) (A : Option Addr) (n c : Nat) (xs : List Pfx) (B : Option Addr) (m d : Nat) (ys : List Pfx) (hl : listR 2 pfxR w F [.slice A n c] xs) (hu : listR 2 pfxR w F [.slice B m d] ys) (hF : InF F w) (hn : n ≤ 4096) (hm : m ≤ 4096) :
    Calls Try.prog 29 #[.agg #[.slice A n c], .agg #[.slice B m d]] w (MPost1 w F (mergeL kLess xs ys)) := by
  have HS := Lib.hid (three_sets w F A n c xs B m d ys hl hu hF)
  clear hl hu
  go_enter Try.func29, Try.ntmps29
  go_upto_region 1 with fail
  refine wp_gen (fun W => Below w.heap.size w W ∧ Blk W w.heap.size 26 #[.slice A n c] ∧ Blk W (w.heap.size + 1) 26 #[.slice B m d] ∧ Blk W (w.heap.size + 1 + 1) 26 #[.slice none 0 0] ∧ listR 2 pfxR W F [.slice A n c] xs ∧ listR 2 pfxR W F [.slice B m d] ys) HS.out ?_
  rintro W ⟨g1, g2, g3, g4, g5, g6⟩
  have H1 := Lib.hid g1
  have H4 := Lib.hid g4
  have H5 := Lib.hid (And.intro g5 g6)
  have x1 := g2.cell 0
  have x2 := g3.cell 0
  clear g1 g2 g3 g4 g5 g6
  go_wp2_with fail
  refine (set_mergeLess kLess set_Less1 W F A n c xs B m d ys H5.out.1 H5.out.2 (hF.below H1.out) hn hm).mono ?_
  rintro e w1 ⟨A', n', c', F', rfl, hg, hl⟩
  have hb := H4.out.below hg.below H4.out.lt
  have hb2 : Below w1.heap.size w1 (w1.alloc (.cells #[.slice A' n' c'] 26)) := (Below.refl _ _).alloc (Nat.le_refl _) _
  have HB0 := Lib.hid (hb.below hb2 hb.lt)
  have HG0 := Lib.hid (hg.alloc (.cells #[.slice A' n' c'] 26))
  have HL0 := Lib.hid ((listR_ok pfxR_ok).below hl hb2 hg.lt)
  have HN := Lib.hid (Blk.new w1 26 #[.slice A' n' c'])
  clear hb hg hl x1 x2 hb2
  go_upto_region 2 with fail
  refine wp_gen (fun W2 => Blk W2 (w.heap.size + 1 + 1) 26 #[.slice none 0 0] ∧ Grew W F W2 F' ∧ listR 2 pfxR W2 F' [.slice A' n' c'] _ ∧ Blk W2 w1.heap.size 26 #[.slice A' n' c']) ⟨HB0.out, HG0.out, HL0.out, HN.out⟩ ?_
  rintro W2 ⟨g1, g2, g3, g4⟩
  have x3 := g1.cell 0
  have x4 := g1.free 0
  have x5 := g4.cell 0
  have HB := Lib.hid (fun v => g1.set_ (cs := [_]) 0 v)
  have HG := Lib.hid (fun u => grew_set (u := u) H1.out hF g2 (show w.heap.size ≤ w.heap.size + 1 + 1 by omega) H4.out.lt g3)
  clear g1 g2 g3 g4
  go_wp2_with fail
  refine bodyPost_ret (results_cell_row rfl _ _ (w.heap.size + 1 + 1) 26 _ (0, 0) _ rfl (HB.out (.slice A' n' c')).heap Try.underlying26 rfl rfl) rfl ?_
  exact ⟨_, _, _, _, rfl, (HG.out _).1, (HG.out _).2⟩
end Go.Proofs.Ythiodgnklfbmjaa
