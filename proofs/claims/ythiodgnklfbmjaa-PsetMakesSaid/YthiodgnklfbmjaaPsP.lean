/- The law PsetCovers. -/
import Derived.Test.YthiodgnklfbmjaaPsQ
namespace Go.Proofs.Ythiodgnklfbmjaa
open Go.RowKit
set_option linter.unusedVariables false

set_option maxRecDepth 100000 in
set_option maxHeartbeats 8000000 in
theorem law_PsetCovers (w : World) (F : Nat → Prop) (A : Option Addr) (n c : Nat) (a : List Pfx) (pa pl x : Int) (hl : listR 2 pfxR w F [.slice A n c] a) (hp : (Pfx.mk pa pl).Fits) (hx : 0 ≤ x ∧ x ≤ 4294967295) (hF : InF F w) :
    Calls Try.prog 6 #[.slice A n c, .agg #[.int .u32 pa, .int .i64 pl], .int .u32 x] w fun e w' => e = .returned (.bool true) ∧ Below w.heap.size w w' := by
  have hB0 : Below w.heap.size w (w.alloc (.cells #[.int .u32 pa, .int .i64 pl] 35)) := (Below.refl _ _).alloc (Nat.le_refl _) _
  have HB0 := Lib.hid hB0
  have HK0 := Lib.hid (Blk.new w 35 #[.int .u32 pa, .int .i64 pl])
  have HL := Lib.hid hl
  clear hl hB0
  go_enter Try.func6, Try.ntmps6
  go_wp2_with fail
  refine (law_head _).mono ?_
  rintro e w1 ⟨rfl, hB1⟩
  have HB1 := Lib.hid (below_step HB0.out hB1)
  have HK1 := Lib.hid (HK0.out.below hB1 HK0.out.lt)
  clear hB1
  by_cases h1 : 40 < n
  · have d1 : decide ((n : Int) > 40) = true := decide_eq_true (by omega)
    go_wp2_with fail
    go_ret
    exact ⟨rfl, HB1.out⟩
  have d1 : decide ((n : Int) > 40) = false := decide_eq_false (by omega)
  go_wp2_with fail
  refine (law_make2 w1 F A n c a none 0 0 [] ((listR_ok pfxR_ok).below HL.out HB1.out hF) listR.nil (hF.below HB1.out) (by omega) (by omega)).mono ?_
  rintro e w2 ⟨A2, n2, c2, B2, m2, e2, F2, rfl, hg2, hx2, hy2⟩
  have HS : Hid (LSt w F _ F2 _) := Lib.hid (LSt.new2 (fs := []) ⟨(Grew.trans ⟨HB1.out, fun _ h => h, fun _ h => .inl h, hF.below HB1.out⟩ hg2), by simp⟩ hx2 hy2)
  have HK2 := Lib.hid (((HK1.out.below hg2.below HK1.out.lt).below ((Below.refl _ _).alloc (Nat.le_refl _) (.cells #[.slice A2 n2 c2] 26)) (HK1.out.below hg2.below HK1.out.lt).lt).below ((Below.refl _ _).alloc (Nat.le_refl _) (.cells #[.slice B2 m2 e2] 26)) (by have := (HK1.out.below hg2.below HK1.out.lt).lt; simp; omega))
  clear hg2 hx2 hy2
  obtain ⟨s, hs⟩ : ∃ s, s = ofL (a.filter Pfx.good) := ⟨_, rfl⟩
  rw [← hs] at HS
  have hsl : s.length ≤ 4096 := by rw [hs]; exact (ofL_sorted _).2
  clear hs
  go_upto_region 7 with fail
  refine wp_gen (fun W => LSt w F W F2 _ ∧ Blk W w.heap.size 35 #[.int .u32 pa, .int .i64 pl]) ⟨HS.out, HK2.out⟩ ?_
  rintro W ⟨hW, hkp⟩
  replace HS := Lib.hid hW
  have hall := hW.fact
  simp only [List.forall_mem_cons] at hall
  obtain ⟨⟨_, _⟩, ⟨k1, l1⟩, _⟩ := hall
  obtain rfl : n2 = s.length := l1.len.1
  have L1 := Lib.hid l1
  have HF := Lib.hid hW.grew.lt
  have x1 := k1.cell 0
  have HK1 := Lib.hid k1
  have HP := Lib.hid hkp
  clear hW hkp k1 l1 d1 h1 HK0 HK2
  go_wp2_with fail
  refine (set_ListF W F2 A2 s.length c2 s L1.out HF.out (by omega)).mono ?_
  rintro e w3 ⟨A3, c3, F3, rfl, hl3, hF3, hb3⟩
  have HL3 := Lib.hid hl3
  have HF3 := Lib.hid hF3
  have HB3 := Lib.hid hb3
  clear hl3 hF3 hb3 x1
  go_wp2_with fail
  go_loopw [9, 31] (fun y i wr => ∃ k : Nat, k ≤ s.length ∧ i = .int .i64 k ∧ y = .bool (coversP (s.take k) x) ∧ Below w3.heap.size w3 wr) (fun _ i _ => s.length - (intOf i).toNat)
  case atStart => exact ⟨0, Nat.zero_le _, rfl, rfl, Below.refl _ _⟩
  case round =>
    obtain ⟨k, hk, rfl, rfl, hB⟩ := hrel
    by_cases hlt : k < s.length
    · obtain ⟨q, r, b, off, hx1, rfl, hFb, hf, c1, c2'⟩ := pfx_at HL3.out hlt
      have d1 := (hB.cell (p := ⟨b, off + k * 2, none⟩) (HF3.out b hFb)).trans c1
      have d2 := (hB.cell (p := ⟨b, off + k * 2 + 1, none⟩) (HF3.out b hFb)).trans c2'
      have hk0 : (0 : Int) ≤ (k : Int) := by omega
      have hk1 : (k : Int) < (s.length : Int) := by omega
      obtain ⟨z, hz⟩ : ∃ z, z = hasP ⟨q, r⟩ x := ⟨_, rfl⟩
      obtain ⟨y, hy⟩ : ∃ y, y = coversP (s.take k) x := ⟨_, rfl⟩
      have HN : Hid (coversP (s.take (k + 1)) x = (y || z)) := Lib.hid (by rw [hz, hy]; exact coversP_snoc x hx1)
      have hc := fun W => ip_Has q r x W hf hx
      rw [← hz] at hc
      have Hc := Lib.hid hc
      have HBa := Lib.hid (hB.alloc hB.size (.cells #[.int .u32 q, .int .i64 r] 35))
      rw [← hy]
      clear hx1 c1 c2' hf hz hy hc
      cases y
      · go_wp2_with fail
        refine (Hc.out _).mono ?_
        rintro e w4 ⟨rfl, hb4⟩
        have HB4 := Lib.hid (below_step HBa.out hb4)
        clear hb4
        go_wp2_with fail
        go_roundw
        case rel => exact ⟨k + 1, by omega, by go_num, by rw [HN.out]; rfl, HB4.out⟩
        case measure => simp [intOf]; omega
      · go_wp2_with fail
        go_roundw
        case rel => exact ⟨k + 1, by omega, by go_num, by rw [HN.out]; rfl, HBa.out⟩
        case measure => simp [intOf]; omega
    · have HN : Hid (coversP (s.take k) x = coversP s x) := Lib.hid (by rw [List.take_of_length_le (by omega)])
      obtain ⟨y, hy⟩ : ∃ y, y = coversP s x := ⟨_, rfl⟩
      have HB4 := Lib.hid (HB3.out.trans (hB.mono HB3.out.size))
      have HK4 := Lib.hid (HK1.out.below HB4.out HK1.out.lt)
      have HP4 := Lib.hid (HP.out.below HB4.out HP.out.lt)
      have hc := set_Covers wr F2 A2 s.length c2 s x ((listR_ok pfxR_ok).below L1.out HB4.out HF.out) (HF.out.below HB4.out) hx
      rw [← hy] at hc
      have Hc := Lib.hid hc
      have x1 := HK4.out.cell 0
      rw [HN.out, ← hy]
      clear hy hc HB3 HL3 HF3
      go_wp2_with fail
      refine Hc.out.mono ?_
      rintro e w4 ⟨rfl, hb4⟩
      have HB5 := Lib.hid (below_step HB4.out hb4)
      have HP5 := Lib.hid (HP4.out.below hb4 HP4.out.lt)
      clear hb4 x1 hB
      obtain ⟨⟨la, ll⟩, hlo⟩ : ∃ q, q = halfP ⟨pa, pl⟩ true := ⟨_, rfl⟩
      obtain ⟨⟨ra, rl⟩, hri⟩ : ∃ q, q = halfP ⟨pa, pl⟩ false := ⟨_, rfl⟩
      have hE01 : halfE ⟨pa, pl⟩ = 0 ∨ halfE ⟨pa, pl⟩ = 1 := by unfold halfE; split <;> simp
      have HH : Hid (halfE ⟨pa, pl⟩ = 0 → (Pfx.mk la ll).Fits ∧ (Pfx.mk ra rl).Fits ∧ ofE [⟨la, ll⟩, ⟨ra, rl⟩] = 0 ∧ (ofL [⟨la, ll⟩, ⟨ra, rl⟩]).length = 2 ∧ coversP (ofL [⟨la, ll⟩, ⟨ra, rl⟩]) x = hasP ⟨pa, pl⟩ x) := Lib.hid fun h => by
        have := halves ⟨pa, pl⟩ hp h x hx
        rw [← hlo, ← hri] at this
        refine ⟨?_, ?_, this.2⟩
        · rw [hlo]; exact this.1 true
        · rw [hri]; exact this.1 false
      obtain ⟨E, hE⟩ : ∃ E, E = halfE ⟨pa, pl⟩ := ⟨_, rfl⟩
      have hc0 := fun W => ip_Half pa pl 0 W hp
      have hc1 := fun W => ip_Half pa pl 1 W hp
      rw [show ((0 : Int) == 0) = true from rfl, ← hlo, ← hE] at hc0
      rw [show ((1 : Int) == 0) = false from rfl, ← hri, ← hE] at hc1
      rw [← hE] at HH hE01
      simp only [Pfx.vals] at hc0 hc1
      have Hc0 := Lib.hid hc0
      have Hc1 := Lib.hid hc1
      clear hc0 hc1 hlo hri hE
      have x2 := HP5.out.cell 0
      have x3 := HP5.out.cell 1
      go_wp2_with fail
      refine (Hc0.out _).mono ?_
      rintro e w5 ⟨rfl, hb5⟩
      have hb6 := hb5.alloc hb5.size (.cells #[.int .u32 la, .int .i64 ll] 35)
      have HB6 := Lib.hid (below_step HB5.out hb6)
      have HP6 := Lib.hid (HP5.out.below hb6 HP5.out.lt)
      have HQ6 := Lib.hid (Blk.new w5 35 #[.int .u32 la, .int .i64 ll])
      clear hb5 hb6 x2 x3
      go_upto_region 15 with fail
      have x2 := HP6.out.cell 0
      have x3 := HP6.out.cell 1
      go_wp2_with fail
      refine (Hc1.out _).mono ?_
      rintro e w7 ⟨rfl, hb7⟩
      have hb8 := hb7.alloc hb7.size (.cells #[.int .u32 ra, .int .i64 rl] 35)
      have HB8 := Lib.hid (below_step HB6.out hb8)
      have HP8 := Lib.hid (HP6.out.below hb8 HP6.out.lt)
      have HQ8 := Lib.hid (HQ6.out.below hb8 HQ6.out.lt)
      have HR8 := Lib.hid (Blk.new w7 35 #[.int .u32 ra, .int .i64 rl])
      clear hb7 hb8 x2 x3
      have HBw := Lib.hid (HS.out.grew.below.trans (HB8.out.mono HS.out.grew.below.size))
      rcases hE01 with rfl | rfl
      · obtain ⟨hfl, hfr, ho, hol, hcov⟩ := HH.out rfl
        obtain ⟨L, hL⟩ : ∃ L, L = ofL [⟨la, ll⟩, ⟨ra, rl⟩] := ⟨_, rfl⟩
        rw [← hL] at hol hcov
        have HO := Lib.hid (fun (W : World) (F : Nat → Prop) (hF : InF F W) => of_lit W F hF [.int .u32 la, .int .i64 ll, .int .u32 ra, .int .i64 rl] [⟨la, ll⟩, ⟨ra, rl⟩] L 2 2 rfl (by intro q hq; simp at hq; rcases hq with rfl | rfl <;> assumption) ho hL.symm rfl hol (by omega))
        have HC := Lib.hid hcov
        clear hol hcov ho hfl hfr hL
        go_upto_region 18 with fail
        refine wp_gen (fun W => Below w.heap.size w W ∧ Blk W w.heap.size 35 #[.int .u32 pa, .int .i64 pl] ∧ Blk W w5.heap.size 35 #[.int .u32 la, .int .i64 ll] ∧ Blk W w7.heap.size 35 #[.int .u32 ra, .int .i64 rl]) ⟨HBw.out, HP8.out, HQ8.out, HR8.out⟩ ?_
        rintro W8 ⟨g1, g2, g3, g4⟩
        have x4 := g3.cell 0
        have x5 := g3.cell 1
        have x6 := g4.cell 0
        have x7 := g4.cell 1
        have HP8 := Lib.hid g2
        have HBw := Lib.hid g1
        have HN8 := Lib.hid (noF_in W8)
        clear g1 g2 g3 g4
        go_wp2_with fail
        refine (HO.out _ _ HN8.out).mono ?_
        rintro e w9 ⟨A9, c9, F9, rfl, hg9, hl9⟩
        have HB9 := Lib.hid (below_step HBw.out hg9.below)
        have HP9 := Lib.hid (HP8.out.below hg9.below HP8.out.lt)
        have HL9 := Lib.hid hl9
        have HF9 := Lib.hid hg9.lt
        clear hg9 hl9 x4 x5 x6 x7
        go_upto_region 19 with fail
        have hb10 : Below w9.heap.size w9 (w9.alloc (.cells #[.slice A9 2 c9] 26)) := (Below.refl _ _).alloc (Nat.le_refl _) _
        refine wp_gen (fun W => Below w.heap.size w W ∧ Blk W w.heap.size 35 #[.int .u32 pa, .int .i64 pl] ∧ Blk W w9.heap.size 26 #[.slice A9 2 c9] ∧ listR 2 pfxR W F9 [.slice A9 2 c9] L ∧ InF F9 W) ⟨below_step HB9.out hb10, HP9.out.below hb10 HP9.out.lt, Blk.new _ _ _, (listR_ok pfxR_ok).below HL9.out hb10 HF9.out, HF9.out.below hb10⟩ ?_
        rintro W ⟨g1, g2, g3, g4, g5⟩
        have HW := Lib.hid g1
        have x1 : ∀ w' o, Below W.heap.size W w' → w'.cell? ⟨w.heap.size, o, none⟩ = (#[.int .u32 pa, .int .i64 pl] : Array Value)[o]? := fun w' o h => (g2.below h g2.lt).cell o
        have x2 : ∀ w', Below W.heap.size W w' → w'.cell? ⟨w9.heap.size, 0, none⟩ = some (.slice A9 2 c9) := fun w' h => (g3.below h g3.lt).cell 0
        have cc := fun w' (h : Below W.heap.size W w') => set_Covers w' F9 A9 2 c9 L x ((listR_ok pfxR_ok).below g4 h g5) (g5.below h) hx
        have ch := fun w' => ip_Has pa pl x w' hp hx
        obtain ⟨z, hz⟩ : ∃ z, z = hasP ⟨pa, pl⟩ x := ⟨_, rfl⟩
        rw [HC.out, ← hz] at cc
        rw [← hz] at ch
        have Hcc := Lib.hid cc
        have Hch := Lib.hid ch
        have hWW : Below W.heap.size W W := Below.refl _ _
        clear g1 g2 g3 g4 g5 cc ch hz hb10
        go_region_held3 (fun w' => Below W.heap.size W w') (first | (with_reducible exact below_step (by assumption) hb1') | (repeat' (first | (with_reducible exact Below.refl _ _) | (with_reducible assumption) | (with_reducible exact Below.size (by assumption)) | (with_reducible refine Below.drew ?_))))
          (first
            | (go_at_call 15; (with_reducible refine (set_Len _ _ _ _).mono ?_); rintro e u1 ⟨rfl, hb1'⟩; have hq : Below W.heap.size W u1 := below_step (by assumption) hb1')
            | (go_at_call 22; (with_reducible refine (Hcc.out _ ?_).mono ?_); assumption; rintro e u1 ⟨rfl, hb1'⟩; have hq : Below W.heap.size W u1 := below_step (by assumption) hb1')
            | (go_at_call 25; (with_reducible refine (Hch.out _).mono ?_); rintro e u1 ⟨rfl, hb1'⟩; have hq : Below W.heap.size W u1 := below_step (by assumption) hb1')
            | fail)
        all_goals (go_wp2_with fail)
        all_goals go_ret
        all_goals exact ⟨by simp, below_step HW.out (by assumption)⟩
      · go_wp2_with fail
        go_ret
        exact ⟨rfl, HBw.out⟩
end Go.Proofs.Ythiodgnklfbmjaa
