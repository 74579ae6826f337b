/- The example of the policies' laws. -/
import Derived.Test.YtjeligbgcofaeaaDoorPoH
namespace Go.Proofs.YtjeligbgcofaeaaDoor
open Go.RowKit
set_option linter.unusedVariables false
set_option linter.unusedSimpArgs false

theorem Hs.at_ {w : World} {A : Option Addr} {n c : Nat} {xs : List OHdr} (h : Hs w (.slice A n c) xs) {i : Nat} {x : OHdr} (hx : xs[i]? = some x) : ∃ b off, A = some ⟨b, off, none⟩ ∧ b < w.heap.size ∧ w.rangeAt b (off + i * 19) x.1.vals := by
  obtain ⟨b, off, cs, hA, hb, hc, hr⟩ := listR.at_ h hx
  have hc' : cs = encH x := hc
  subst hc'
  exact ⟨b, off, hA, hb, hr⟩
theorem Hs.zero {w : World} {v : Value} (h : Hs w v []) : ∃ A c, v = .slice A 0 c := h.form
theorem Hs.single {w : World} {v : Value} {p : OHdr} (h : Hs w v [p]) : ∃ b off c, v = .slice (some ⟨b, off, none⟩) 1 c ∧ b < w.heap.size ∧ w.rangeAt b off p.1.vals := by
  obtain ⟨A, c, rfl⟩ := h.form
  obtain ⟨b, off, rfl, hb, hr⟩ := h.at_ (i := 0) rfl
  exact ⟨b, off, c, rfl, hb, by simpa using hr⟩
theorem Hs.pair {w : World} {v : Value} {p q : OHdr} (h : Hs w v [p, q]) : ∃ b off c, v = .slice (some ⟨b, off, none⟩) 2 c ∧ b < w.heap.size ∧ w.rangeAt b off p.1.vals ∧ w.rangeAt b (off + 19) q.1.vals := by
  obtain ⟨A, c, rfl⟩ := h.form
  obtain ⟨b, off, rfl, hb, hr⟩ := h.at_ (i := 0) rfl
  obtain ⟨b', off', e, _, hr'⟩ := h.at_ (i := 1) rfl
  cases e
  exact ⟨b, off, c, rfl, hb, by simpa using hr, by simpa using hr'⟩
def fwdN (p : Int) : Nd := .mk 14 0 p 0 []
theorem fits_small {k f v m : Int} {ks : List Nd} (hk : 0 ≤ k) (hk1 : k ≤ 17) (hf : I64 f) (hv : U64 v) (hm : U64 m) : (Nd.mk k f v m ks).Fits := ⟨⟨by show _ ≤ k; omega, by show k ≤ _; omega⟩, hf, hv, hm⟩
theorem i64_zero : I64 0 := ⟨by omega, by omega⟩
theorem u64_zero : U64 0 := ⟨by omega, by omega⟩
theorem fwd_fits {p : Int} (h0 : 0 ≤ p) (h1 : p ≤ 255) : (fwdN p).Fits := fits_small (by omega) (by omega) i64_zero ⟨h0, by omega⟩ u64_zero
theorem runN_set (f v m : Int) (ks : List Nd) (h : OHdr) : runN (.mk 14 f v m ks) h = ([withO h f v], true) := by
  rw [runN, if_neg (by omega), if_neg (by omega), if_pos rfl]
theorem joinF_one (p : OHdr) : joinF [] ([p], true) = some [p] := by
  unfold joinF
  rw [unionO_one]
  simp
theorem joinF_nil : joinF [] ([], true) = some [] := by
  unfold joinF
  rw [unionO_nil List.Pairwise.nil]
  simp
theorem joinF_two {p q : OHdr} (h : ltO p q) : joinF [p] ([q], true) = some [p, q] := by
  unfold joinF
  rw [unionO_two h]
  simp
def oh00 : OHdr := ⟨zeroH, zeroH_ok⟩
def ex1 : Nd := .mk 15 0 0 0 [fwdN 1, fwdN 2]
def ex2 : Nd := .mk 16 0 0 0 [.mk 13 0 0 0 [.mk 2 0 0 0 []], fwdN 1]
theorem ex1_lt : ltO (withO oh00 0 1) (withO oh00 0 2) := by
  have e1 := withO_val (h := oh00) (k := 0) (v := 1) (by omega) (by omega) (by show (1 : Int) ≤ (255 : Nat); omega)
  have e2 := withO_val (h := oh00) (k := 0) (v := 2) (by omega) (by omega) (by show (2 : Int) ≤ (255 : Nat); omega)
  show cmpH (withO oh00 0 1).1 (withO oh00 0 2).1 < 0
  rw [show (withO oh00 0 1).1 = withH oh00.1 0 1 from e1, show (withO oh00 0 2).1 = withH oh00.1 0 2 from e2]
  have : cmpH (withH oh00.1 0 1) (withH oh00.1 0 2) = -1 := by kernel_rfl
  rw [this]
  omega
theorem ex1_run : runN ex1 oh00 = ([withO oh00 0 1, withO oh00 0 2], true) := by
  unfold ex1 fwdN
  rw [runN, if_neg (by omega), if_neg (by omega), if_neg (by omega), if_pos rfl, runPar, runN_set, joinF_one]
  show runPar [.mk 14 0 2 0 []] oh00 [withO oh00 0 1] = _
  rw [runPar, runN_set, joinF_two ex1_lt]
  show runPar [] oh00 [withO oh00 0 1, withO oh00 0 2] = _
  rw [runPar]
theorem ex2_run : runN ex2 oh00 = ([], true) := by
  unfold ex2 fwdN
  rw [runN, if_neg (by omega), if_neg (by omega), if_neg (by omega), if_neg (by omega), if_pos rfl, runSeq, eachF]
  have e1 : runN (.mk 13 0 0 0 [.mk 2 0 0 0 []]) oh00 = ([], true) := by
    rw [runN, if_neg (by omega), if_pos rfl, runFil, holdsN]
    simp
  rw [e1, joinF_nil]
  show (match eachF (fun g => runN (.mk 13 0 0 0 [.mk 2 0 0 0 []]) g) [] [] with | (_, false) => ([], false) | (a, true) => runSeq [.mk 14 0 1 0 []] a) = _
  rw [eachF]
  show runSeq [.mk 14 0 1 0 []] [] = _
  rw [runSeq, eachF]
  show runSeq [] [] = _
  rw [runSeq]
theorem ex1_walk : (walkN ex1 false 64 16).2 = 0 := by kernel_rfl
theorem ex2_walk : (walkN ex2 false 64 16).2 = 0 := by kernel_rfl
def EXP : Prop := ∀ w, Tab w → Calls Tryd.prog 16 #[] w fun e w' => e = .returned (.bool true) ∧ Below w.heap.size w w'
theorem ex1_node {w : World} {g : Nat} (hb : Blk w g 45 #[.int .i64 14, .int .i64 0, .int .u64 1, .int .u64 0, .slice none 0 0, .int .i64 14, .int .i64 0, .int .u64 2, .int .u64 0, .slice none 0 0]) : nodeR 2 w (fun b => b < w.heap.size) [.int .i64 15, .int .i64 0, .int .u64 0, .int .u64 0, .slice (some ⟨g, 0, none⟩) 2 2] ex1 :=
  nodeR_two (c1 := [.int .i64 14, .int .i64 0, .int .u64 1, .int .u64 0, .slice none 0 0]) (c2 := [.int .i64 14, .int .i64 0, .int .u64 2, .int .u64 0, .slice none 0 0]) (fits_small (by omega) (by omega) i64_zero u64_zero u64_zero) hb.lt hb (nodeR_leaf 0 (fwd_fits (p := 1) (by omega) (by omega))) (nodeR_leaf 0 (fwd_fits (p := 2) (by omega) (by omega)))
theorem ex2_node {w : World} {g g1 : Nat} (hb1 : Blk w g1 45 #[.int .i64 2, .int .i64 0, .int .u64 0, .int .u64 0, .slice none 0 0]) (hb : Blk w g 45 #[.int .i64 13, .int .i64 0, .int .u64 0, .int .u64 0, .slice (some ⟨g1, 0, none⟩) 1 1, .int .i64 14, .int .i64 0, .int .u64 1, .int .u64 0, .slice none 0 0]) : nodeR 3 w (fun b => b < w.heap.size) [.int .i64 16, .int .i64 0, .int .u64 0, .int .u64 0, .slice (some ⟨g, 0, none⟩) 2 2] ex2 :=
  nodeR_two (c1 := [.int .i64 13, .int .i64 0, .int .u64 0, .int .u64 0, .slice (some ⟨g1, 0, none⟩) 1 1]) (c2 := [.int .i64 14, .int .i64 0, .int .u64 1, .int .u64 0, .slice none 0 0]) (fits_small (by omega) (by omega) i64_zero u64_zero u64_zero) hb.lt hb (nodeR_single (c1 := [.int .i64 2, .int .i64 0, .int .u64 0, .int .u64 0, .slice none 0 0]) (fits_small (by omega) (by omega) i64_zero u64_zero u64_zero) hb1.lt hb1 (nodeR_leaf 0 (fits_small (by omega) (by omega) i64_zero u64_zero u64_zero))) (nodeR_leaf 1 (fwd_fits (p := 1) (by omega) (by omega)))
set_option maxRecDepth 100000 in
set_option maxHeartbeats 1000000 in
theorem law_filter (w : World) (k f v m : Int) (A : Option Addr) (n c : Nat) :
    Calls Tryd.prog 32 #[.agg #[.int .i64 k, .int .i64 f, .int .u64 v, .int .u64 m, .slice A n c]] w fun e w' => ∃ g, e = .returned (.agg #[.int .i64 13, .int .i64 0, .int .u64 0, .int .u64 0, .slice (some ⟨g, 0, none⟩) 1 1]) ∧ Blk w' g 45 #[.int .i64 k, .int .i64 f, .int .u64 v, .int .u64 m, .slice A n c] ∧ w.heap.size ≤ g ∧ Below w.heap.size w w' := by
  have HX : Hid (Below w.heap.size w ((w.alloc (.cells #[.int .i64 k, .int .i64 f, .int .u64 v, .int .u64 m, .slice A n c] 45)).alloc (.cells #[.int .i64 0, .int .i64 0, .int .u64 0, .int .u64 0, .slice none 0 0] 45)) ∧ Blk ((w.alloc (.cells #[.int .i64 k, .int .i64 f, .int .u64 v, .int .u64 m, .slice A n c] 45)).alloc (.cells #[.int .i64 0, .int .i64 0, .int .u64 0, .int .u64 0, .slice none 0 0] 45)) w.heap.size 45 #[.int .i64 k, .int .i64 f, .int .u64 v, .int .u64 m, .slice A n c] ∧ Blk ((w.alloc (.cells #[.int .i64 k, .int .i64 f, .int .u64 v, .int .u64 m, .slice A n c] 45)).alloc (.cells #[.int .i64 0, .int .i64 0, .int .u64 0, .int .u64 0, .slice none 0 0] 45)) (w.heap.size + 1) 45 #[.int .i64 0, .int .i64 0, .int .u64 0, .int .u64 0, .slice none 0 0]) := by
    have b1 := Blk.new w 45 #[.int .i64 k, .int .i64 f, .int .u64 v, .int .u64 m, .slice A n c]
    have l1 := (Below.refl w.heap.size w).alloc (Nat.le_refl _) (.cells #[.int .i64 k, .int .i64 f, .int .u64 v, .int .u64 m, .slice A n c] 45)
    generalize hW1 : w.alloc (.cells #[.int .i64 k, .int .i64 f, .int .u64 v, .int .u64 m, .slice A n c] 45) = W1 at b1 l1 ⊢
    have s1 : W1.heap.size = w.heap.size + 1 := by rw [← hW1]; simp
    have b2 := Blk.new W1 45 #[.int .i64 0, .int .i64 0, .int .u64 0, .int .u64 0, .slice none 0 0]
    have l2 := (Below.refl W1.heap.size W1).alloc (Nat.le_refl _) (.cells #[.int .i64 0, .int .i64 0, .int .u64 0, .int .u64 0, .slice none 0 0] 45)
    rw [s1] at b2
    exact Lib.hid ⟨below_step l1 l2, b1.below l2 (by omega), b2⟩
  go_enter Tryd.func32, Tryd.ntmps32
  go_upto_region 1 with fail
  refine wp_gen (fun W => Below w.heap.size w W ∧ Blk W w.heap.size 45 #[.int .i64 k, .int .i64 f, .int .u64 v, .int .u64 m, .slice A n c] ∧ Blk W (w.heap.size + 1) 45 #[.int .i64 0, .int .i64 0, .int .u64 0, .int .u64 0, .slice none 0 0]) HX.out ?_
  rintro W ⟨hW, hk1, hk2⟩
  have HW := Lib.hid (hW.alloc hW.size (.cells #[.int .i64 k, .int .i64 f, .int .u64 v, .int .u64 m, .slice A n c] 45))
  have HSW := Lib.hid hW.size
  have R1 := Lib.hid (show W.rangeAt w.heap.size 0 [.int .i64 k, .int .i64 f, .int .u64 v, .int .u64 m, .slice A n c] from hk1.range)
  have hal := (Below.refl W.heap.size W).alloc (Nat.le_refl _) (.cells #[.int .i64 k, .int .i64 f, .int .u64 v, .int .u64 m, .slice A n c] 45)
  have HK2 := Lib.hid (hk2.below hal hk2.lt)
  have HK3 := Lib.hid (Blk.new W 45 #[.int .i64 k, .int .i64 f, .int .u64 v, .int .u64 m, .slice A n c])
  have HLT := Lib.hid hk2.lt
  clear hW hk1 hk2 hal HX
  go_wp2_with (first
    | (refine wpList_load_mid rfl 45 (.tmp 1) rfl w.heap.size 0 rfl _ _ R1.out Tryd.underlying45 rfl (by kernel_rfl) ?_)
    | (refine wpList_store_blk rfl 45 (.tmp 2) (.tmp 5) rfl (w.heap.size + 1) 45 _ [.int .i64 13, .int .i64 0, .int .u64 0, .int .u64 0, .slice (some ⟨W.heap.size, 0, none⟩) 1 1] rfl rfl HK2.out rfl (by kernel_rfl) (fun u hu => by simp at hu; rcases hu with rfl | rfl | rfl | rfl <;> rfl) ?_; intro W3 hz hg; have HZ3 := Lib.hid hz; have HG3 := Lib.hid hg; clear hz hg)
    | fail)
  refine bodyPost_ret (results_cell_row rfl _ _ (w.heap.size + 1) 45 _ (0, 0) _ rfl HZ3.out.heap Tryd.underlying45 rfl rfl) rfl ?_
  exact ⟨W.heap.size, rfl, HK3.out.grown HG3.out (by have := HLT.out; omega), HSW.out, below_grown HW.out HG3.out (by omega)⟩
set_option maxRecDepth 100000 in
set_option maxHeartbeats 4000000 in
theorem pol_example : EXP := fun w hT => by
  have CF := Lib.hid (fun (p : Int) W => pol_Fwd p W)
  have C1 := Lib.hid (fun W => (show Calls Tryd.prog 29 #[.int .i64 1] W (fun e w' => e = .returned (.agg #[.int .i64 14, .int .i64 0, .int .u64 1, .int .u64 0, .slice none 0 0]) ∧ Below W.heap.size W w') from pol_Fwd 1 W))
  have C2 := Lib.hid (fun W => (show Calls Tryd.prog 29 #[.int .i64 2] W (fun e w' => e = .returned (.agg #[.int .i64 14, .int .i64 0, .int .u64 2, .int .u64 0, .slice none 0 0]) ∧ Below W.heap.size W w') from pol_Fwd 2 W))
  have HT := Lib.hid hT
  have hB : Below w.heap.size w w := Below.refl _ _
  have D : ∀ (W : World) (n : Nat) (cs : List Value), Tab W → nodeR n W (fun b => b < W.heap.size) cs ex1 → Calls Tryd.prog 18 #[.agg cs.toArray, .agg #[.int .i64 0, .int .u8 0, .int .u8 0, .int .u8 0, .int .u8 0, .int .u8 0, .int .u8 0, .int .u8 0, .int .u8 0, .int .u8 0, .int .u8 0, .int .u8 0, .int .u8 0, .int .i64 0, .int .u32 0, .int .u32 0, .int .i64 0, .int .i64 0, .int .i64 0]] W (fun e w' => ∃ b off c, e = .returned (.tuple #[.slice (some ⟨b, off, none⟩) 2 c, .int .i64 0]) ∧ b < w'.heap.size ∧ w'.cell? ⟨b, off, none⟩ = some (.int .i64 1) ∧ w'.cell? ⟨b, off + 19, none⟩ = some (.int .i64 2) ∧ Below W.heap.size W w') := fun W n cs hT hn => by
    have h := node_Run_ok n ex1 cs W _ oh00 hT (fun b hb => hb) hn ex1_walk
    rw [ex1_run] at h
    refine h.mono ?_
    rintro e w' ⟨v, rfl, hs, hb⟩
    obtain ⟨b, off, c, rfl, hlt, r1, r2⟩ := Hs.pair hs
    have e1 := withO_val (h := oh00) (k := 0) (v := 1) (by omega) (by omega) (by show (1 : Int) ≤ (255 : Nat); omega)
    have e2 := withO_val (h := oh00) (k := 0) (v := 2) (by omega) (by omega) (by show (2 : Int) ≤ (255 : Nat); omega)
    rw [show (withO oh00 0 1).1 = withH oh00.1 0 1 from e1] at r1
    rw [show (withO oh00 0 2).1 = withH oh00.1 0 2 from e2] at r2
    exact ⟨b, off, c, rfl, hlt, r1 0 _ rfl, r2 0 _ rfl, hb⟩
  have D2 : ∀ (W : World) (n : Nat) (cs : List Value), Tab W → nodeR n W (fun b => b < W.heap.size) cs ex2 → Calls Tryd.prog 18 #[.agg cs.toArray, .agg #[.int .i64 0, .int .u8 0, .int .u8 0, .int .u8 0, .int .u8 0, .int .u8 0, .int .u8 0, .int .u8 0, .int .u8 0, .int .u8 0, .int .u8 0, .int .u8 0, .int .u8 0, .int .i64 0, .int .u32 0, .int .u32 0, .int .i64 0, .int .i64 0, .int .i64 0]] W (fun e w' => ∃ A c, e = .returned (.tuple #[.slice A 0 c, .int .i64 0]) ∧ Below W.heap.size W w') := fun W n cs hT hn => by
    have h := node_Run_ok n ex2 cs W _ oh00 hT (fun b hb => hb) hn ex2_walk
    rw [ex2_run] at h
    refine h.mono ?_
    rintro e w' ⟨v, rfl, hs, hb⟩
    obtain ⟨A, c, rfl⟩ := Hs.zero hs
    exact ⟨A, c, rfl, hb⟩
  have HD := Lib.hid D
  have HD2 := Lib.hid D2
  clear hT D D2
  go_enter Tryd.func16, Tryd.ntmps16
  go_upto_region 2 with (first
    | (go_at_call 29; (with_reducible refine (C1.out _).mono ?_); rintro e u1 ⟨rfl, hb⟩; replace hB := below_step hB hb; clear hb)
    | (go_at_call 29; (with_reducible refine (C2.out _).mono ?_); rintro e u2 ⟨rfl, hb⟩; replace hB := below_step hB hb; clear hb
       have HB2 := Lib.hid (hB.alloc hB.size (.cells #[.int .i64 14, .int .i64 0, .int .u64 1, .int .u64 0, .slice none 0 0, .int .i64 14, .int .i64 0, .int .u64 2, .int .u64 0, .slice none 0 0] 45))
       have HK2 := Lib.hid (Blk.new u2 45 #[.int .i64 14, .int .i64 0, .int .u64 1, .int .u64 0, .slice none 0 0, .int .i64 14, .int .i64 0, .int .u64 2, .int .u64 0, .slice none 0 0]))
    | (go_at_call 25; (with_reducible refine (law_par _ _ _ _).mono ?_); rintro e u3 ⟨rfl, hb⟩; clear hB; have hB := below_step HB2.out hb; have CR := Lib.hid (HD.out u3 2 _ (HT.out.below hB) (ex1_node (HK2.out.below hb HK2.out.lt))); clear hb)
    | (go_at_call 18; (with_reducible refine CR.out.mono ?_); rintro e u4 ⟨b1, off1, cc1, rfl, hlt, hp1, hp2, hb⟩; replace hB := below_step hB hb; have HLT := Lib.hid hlt; have HP1 := Lib.hid hp1; have HP2 := Lib.hid hp2; clear hb hlt hp1 hp2)
    | fail)
  have H4 := Lib.hid hB
  clear hB CR
  have hB : Below u4.heap.size u4 u4 := Below.refl _ _
  go_upto_region 3 with (first
    | (go_at_call 32; (with_reducible refine (law_filter _ _ _ _ _ _ _ _).mono ?_); rintro e u5 ⟨g5, rfl, hk5, hge5, hb⟩; replace hB := below_step hB hb; have HK5 := Lib.hid hk5; clear hb hk5 hge5)
    | (go_at_call 29; (with_reducible refine (C1.out _).mono ?_); rintro e u6 ⟨rfl, hb⟩; replace hB := below_step hB hb
       have HK6 := Lib.hid (HK5.out.below hb HK5.out.lt); clear hb
       have HB6 := Lib.hid (hB.alloc hB.size (.cells #[.int .i64 13, .int .i64 0, .int .u64 0, .int .u64 0, .slice (some ⟨g5, 0, none⟩) 1 1, .int .i64 14, .int .i64 0, .int .u64 1, .int .u64 0, .slice none 0 0] 45))
       have HK7 := Lib.hid (HK6.out.below ((Below.refl u6.heap.size u6).alloc (Nat.le_refl _) (.cells #[.int .i64 13, .int .i64 0, .int .u64 0, .int .u64 0, .slice (some ⟨g5, 0, none⟩) 1 1, .int .i64 14, .int .i64 0, .int .u64 1, .int .u64 0, .slice none 0 0] 45)) HK6.out.lt)
       have HK8 := Lib.hid (Blk.new u6 45 #[.int .i64 13, .int .i64 0, .int .u64 0, .int .u64 0, .slice (some ⟨g5, 0, none⟩) 1 1, .int .i64 14, .int .i64 0, .int .u64 1, .int .u64 0, .slice none 0 0]))
    | (go_at_call 26; (with_reducible refine (law_seq _ _ _ _).mono ?_); rintro e u7 ⟨rfl, hb⟩; clear hB; have hB := below_step HB6.out hb; have CR := Lib.hid (HD2.out u7 3 _ (HT.out.below (below_step H4.out hB)) (ex2_node (HK7.out.below hb HK7.out.lt) (HK8.out.below hb HK8.out.lt))); clear hb)
    | (go_at_call 18; (with_reducible refine CR.out.mono ?_); rintro e u8 ⟨A8, c8, rfl, hb⟩; replace hB := below_step hB hb; clear hb)
    | fail)
  have e1 : u8.cell? ⟨b1, off1, none⟩ = some (.int .i64 1) := (hB.cell (p := ⟨b1, off1, none⟩) HLT.out).trans HP1.out
  have e2 : u8.cell? ⟨b1, off1 + 19, none⟩ = some (.int .i64 2) := (hB.cell (p := ⟨b1, off1 + 19, none⟩) HLT.out).trans HP2.out
  have HB9 := Lib.hid hB
  clear hB
  go_wp2_with fail
  go_ret
  exact ⟨rfl, below_step H4.out HB9.out⟩
end Go.Proofs.YtjeligbgcofaeaaDoor
