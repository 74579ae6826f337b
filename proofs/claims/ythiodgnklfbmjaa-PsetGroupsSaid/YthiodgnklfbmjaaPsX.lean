/- The law PsetGroups. -/
import Derived.Test.YthiodgnklfbmjaaPsW
import Derived.Test.YthiodgnklfbmjaaPsU
namespace Go.Proofs.Ythiodgnklfbmjaa
open Go.RowKit
set_option linter.unusedVariables false
set_option linter.unusedSimpArgs false

def setsOf (by_ : List (List Pfx)) : List (List Pfx) := by_.map fun b => ofL (b.filter Pfx.good)
/-- the sets that are made, one by one -/
structure SetsR (w : World) (F0 : Nat → Prop) (wr : World) (F : Nat → Prop) (ba : Nat) (va : Value) (all : List Pfx) (v : Value) (xss : List (List Pfx)) : Prop where
  grew : Grew w F0 wr F
  blk : Blk wr ba 26 #[va]
  lall : listR 2 pfxR wr F [va] all
  own : ownR 26 1 (listR 2 pfxR) wr F (ba + 1) v xss
  hi : w.heap.size ≤ ba
theorem SetsR.go {w : World} {F0 : Nat → Prop} {wr : World} {F : Nat → Prop} {ba : Nat} {va : Value} {all : List Pfx} {v : Value} {xss : List (List Pfx)} (h : SetsR w F0 wr F ba va all v xss) {w' : World} {F' : Nat → Prop} (hg : Grew wr F w' F') : SetsR w F0 w' F' ba va all v xss :=
  ⟨h.grew.trans hg, h.blk.below hg.below h.blk.lt, (listR_ok pfxR_ok).grew h.lall hg h.grew.lt, h.own.grew (listR_ok pfxR_ok) hg h.grew.lt, h.hi⟩
theorem SetsR.step {w : World} {F0 : Nat → Prop} {wr : World} {F : Nat → Prop} {ba : Nat} {va : Value} {all : List Pfx} {v : Value} {xss : List (List Pfx)} (h : SetsR w F0 wr F ba va all v xss) {w' : World} (hb : Below wr.heap.size wr w') : SetsR w F0 w' F ba va all v xss :=
  h.go ⟨hb, fun _ h => h, fun _ h => .inl h, h.grew.lt.mono hb.size⟩
theorem SetsR.push {w : World} {F0 : Nat → Prop} {wr : World} {F : Nat → Prop} {ba : Nat} {va : Value} {all : List Pfx} {v v' : Value} {xss yss : List (List Pfx)} (h : SetsR w F0 wr F ba va all v xss) {w' : World} (hv : ownR 26 1 (listR 2 pfxR) w' F (ba + 1) v' yss) (hg : wr.grownBy w' v.ownBlock) : SetsR w F0 w' F ba va all v' yss := by
  obtain ⟨_, _, _, hno⟩ := h.own
  have hk : ∀ b, F b → w'.heap[b]? = wr.heap[b]? := fun b hb => hg.block b (h.grew.lt b hb) fun e => hno b e.symm hb
  have hlt := fun g' (e : v.ownBlock = some g') => (h.own.lt g' e).1
  have hi := h.hi
  exact ⟨h.grew.grown hg fun g e => by have := hlt g e; omega, h.blk.grownO hg fun g e => by have := hlt g e; omega, (listR_ok pfxR_ok).keep h.lall hk fun _ h => h, hv, h.hi⟩
theorem setsOf_sorted (by_ : List (List Pfx)) : ∀ s ∈ setsOf by_, sortedP s ∧ s.length ≤ 1073741824 := fun s hs => by
  obtain ⟨b, _, rfl⟩ := List.mem_map.1 hs
  have := ofL_sorted (b.filter Pfx.good)
  exact ⟨this.1, by omega⟩

theorem list_head {w : World} {F : Nat → Prop} {A : Option Addr} {n c : Nat} {xs : List Pfx} {x y : Int} (hl : listR 2 pfxR w F [.slice A n c] xs) (hx : xs[0]? = some ⟨x, y⟩) : ∃ b off, A = some ⟨b, off, none⟩ ∧ F b ∧ (Pfx.mk x y).Fits ∧ w.cell? ⟨b, off, none⟩ = some (.int .u32 x) ∧ w.cell? ⟨b, off + 1, none⟩ = some (.int .i64 y) := by
  obtain ⟨a, l, b, off, hx', hA, hFb, hf, c1, c2⟩ := pfx_at hl (k := 0) (by have := hl.len.1; have := (List.getElem?_eq_some_iff.1 hx).1; omega)
  rw [hx] at hx'
  cases hx'
  exact ⟨b, off, hA, hFb, hf, by simpa using c1, by simpa using c2⟩
set_option maxRecDepth 100000 in
set_option maxHeartbeats 8000000 in
theorem law_PsetGroups (w : World) (F : Nat → Prop) (A : Option Addr) (n c : Nat) (a : List Pfx) (B : Option Addr) (m d : Nat) (by_ : List (List Pfx)) (hl : listR 2 pfxR w F [.slice A n c] a) (hu : listR 1 (listR 2 pfxR) w F [.slice B m d] by_) (hF : InF F w) :
    Calls Try.prog 3 #[.slice A n c, .slice B m d] w fun e w' => e = .returned (.bool true) ∧ Below w.heap.size w w' := by
  have HL := Lib.hid hl
  have HU := Lib.hid hu
  obtain ⟨ic, hic, hc0, hc1, hc2⟩ := info_parts setp_info
  clear hl hu
  go_enter Try.func3, Try.ntmps3
  go_wp2_with fail
  refine (law_head w).mono ?_
  rintro e w1 ⟨rfl, hB1⟩
  have HB1 := Lib.hid hB1
  clear hB1
  by_cases h1 : 30 < n
  · have d1 : decide ((n : Int) > 30) = true := decide_eq_true (by omega)
    go_wp2_with fail
    go_ret
    exact ⟨rfl, HB1.out⟩
  by_cases h2 : 8 < m
  · have d1 : decide ((n : Int) > 30) = false := decide_eq_false (by omega)
    have d2 : decide ((m : Int) > 8) = true := decide_eq_true (by omega)
    go_wp2_with fail
    go_ret
    exact ⟨rfl, HB1.out⟩
  have d1 : decide ((n : Int) > 30) = false := decide_eq_false (by omega)
  have d2 : decide ((m : Int) > 8) = false := decide_eq_false (by omega)
  go_wp2_with fail
  refine (law_make2 w1 F A n c a none 0 0 [] ((listR_ok pfxR_ok).below HL.out HB1.out hF) listR.nil (hF.below HB1.out) (by omega) (by omega)).mono ?_
  rintro e w2 ⟨Aa, na, ca, A0, n0, c0, F2, rfl, hg2, hx2, hy2⟩
  have HS : Hid (LSt w F _ F2 _) := Lib.hid (LSt.new2 (fs := []) ⟨Grew.trans ⟨HB1.out, fun _ h => h, fun _ h => .inl h, hF.below HB1.out⟩ hg2, by simp⟩ hx2 hy2)
  have HG1 := Lib.hid (HB1.out.size)
  have HG2 := Lib.hid hg2.below.size
  obtain ⟨all, hall⟩ : ∃ all, all = ofL (a.filter Pfx.good) := ⟨_, rfl⟩
  rw [← hall] at HS hx2
  have hna := hx2.len.1
  have hna6 : na ≤ 30 := by have h3 := filter_len a; have h4 := HL.out.len.1; rw [← hall] at h3; omega
  have Hna := Lib.hid hna
  have hss : sortedP all := by rw [hall]; exact (ofL_sorted _).1
  have HSS := Lib.hid hss
  clear hall hg2 hx2 hy2 hna d1 d2 h1 hss
  go_upto_region 6 with fail
  refine wp_gen (fun W => LSt w F W F2 _) HS.out ?_
  intro W hW
  have hfa := hW.fact
  simp only [List.forall_mem_cons] at hfa
  obtain ⟨_, ⟨k1, l1⟩, _⟩ := hfa
  have hsz : w2.heap.size + 2 ≤ W.heap.size + 1 := by have := k1.lt; omega
  have HR : Hid (SetsR w F (W.alloc (.cells #[] 26)) F2 w2.heap.size (.slice Aa na ca) all (.slice (some ⟨W.heap.size, 0, none⟩) 0 0) (setsOf (by_.take 0))) := by
    have hb : Below W.heap.size W (W.alloc (.cells #[] 26)) := (Below.refl _ _).alloc (Nat.le_refl _) _
    have h3 := HG1.out
    have h4 := HG2.out
    exact Lib.hid ⟨hW.grew.alloc _, k1.below hb k1.lt, (listR_ok pfxR_ok).below l1 hb hW.grew.lt, ownR.made W _ (by have := k1.lt; omega) hW.grew.lt, by omega⟩
  have HUr := Lib.hid HU.out
  clear hW k1 l1 hsz HS HL
  go_upto_region 7 with fail
  refine wp_gen (fun W => SetsR w F W F2 _ _ _ _ _) HR.out ?_
  intro W1 hW1
  have HR1 := Lib.hid hW1
  clear hW1 HR
  go_wp2_with fail
  go_loopw [7, 45] (fun v i wr => ∃ A1 m1 c1 F1, ∃ k : Nat, k ≤ m ∧ i = .int .i64 k ∧ v = .slice A1 m1 c1 ∧ Hid (SetsR w F wr F1 w2.heap.size (.slice Aa na ca) all (.slice A1 m1 c1) (setsOf (by_.take k)))) (fun _ i _ => m - (intOf i).toNat)
  case atStart => exact ⟨_, _, _, _, 0, Nat.zero_le _, rfl, rfl, HR1⟩
  case round =>
    clear HR1
    obtain ⟨A1, m1, c1, F1, k, hk, rfl, rfl, HR⟩ := hrel
    by_cases hlt : k < m
    · obtain ⟨b, Ab, cb, bb, ob, hx, rfl, hFb, lb, e1⟩ := set_at HU.out hlt
      have hcl := (HR.out.grew.below.cell (p := ⟨bb, ob + k, none⟩) (hF bb hFb)).trans e1
      have hk0 : (0 : Int) ≤ (k : Int) := by omega
      have hk1 : (k : Int) < (m : Int) := by omega
      have HX := Lib.hid hx
      have LB := Lib.hid ((listR_ok pfxR_ok).grew lb HR.out.grew hF)
      have HBW := Lib.hid HR.out.grew.below
      clear hx lb e1
      by_cases h30 : 30 < b.length
      · have d3 : decide ((b.length : Int) > 30) = true := decide_eq_true (by omega)
        go_wp2_with fail
        go_ret
        exact ⟨rfl, HBW.out⟩
      have d3 : decide ((b.length : Int) > 30) = false := decide_eq_false (by omega)
      go_wp2_with fail
      refine (law_make2 wr F1 Ab b.length cb b none 0 0 [] LB.out listR.nil HR.out.grew.lt (by omega) (by omega)).mono ?_
      rintro e w5 ⟨As, ns, cs, A0', n0', c0', F5, rfl, hg5, hx5, hy5⟩
      have HR5 := Lib.hid (HR.out.go hg5)
      have hb6 : Below w5.heap.size w5 ((w5.alloc (.cells #[.slice As ns cs] 26)).alloc (.cells #[.slice A0' n0' c0'] 26)) := ((Below.refl _ _).alloc (Nat.le_refl _) _).alloc (by simp) _
      have HR6 := Lib.hid (HR5.out.step hb6)
      have HL6 := Lib.hid ((listR_ok pfxR_ok).below hx5 hb6 HR5.out.grew.lt)
      have HK6 := Lib.hid ((Blk.new w5 26 #[.slice As ns cs]).below ((Below.refl _ _).alloc (Nat.le_refl _) (.cells #[.slice A0' n0' c0'] 26)) (by simp))
      clear hg5 hx5 hy5 hb6 hcl
      go_upto_region 13 with fail
      refine wp_gen (fun W => SetsR w F W F5 w2.heap.size (.slice Aa na ca) all (.slice A1 m1 c1) (setsOf (by_.take k)) ∧ Blk W w5.heap.size 26 #[.slice As ns cs] ∧ listR 2 pfxR W F5 [.slice As ns cs] _) ⟨HR6.out, HK6.out, HL6.out⟩ ?_
      rintro W7 ⟨r7, k7, l7⟩
      have x7 := k7.cell 0
      have hb8 : Below W7.heap.size W7 (W7.alloc (.cells #[.slice As ns cs] 26)) := (Below.refl _ _).alloc (Nat.le_refl _) _
      have HR8 := Lib.hid (r7.step hb8)
      have HL8 := Lib.hid ((listR_ok pfxR_ok).below l7 hb8 r7.grew.lt)
      have hnews := Lib.hid (cells_row_new W7 26 [.slice As ns cs])
      have hone : Hid (Groups (listR 2 pfxR) (W7.alloc (.cells #[.slice As ns cs] 26)) F5 [.slice As ns cs] [ofL (b.filter Pfx.good)]) := Lib.hid (Groups.single HL8.out)
      have hml : Hid ((setsOf (by_.take k)).length ≤ 8) := by show _ ≤ _; unfold setsOf; rw [List.length_map, List.length_take]; omega
      have h63 : Hid ((setsOf (by_.take k)).length + 1 ≤ 9223372036854775807) := by show _ ≤ _; have := hml.out; omega
      have h64 : Hid (((setsOf (by_.take k)).length + 1) * 24 ≤ 140737488355328) := by show _ ≤ _; have := hml.out; omega
      have hbase : Hid (w2.heap.size + 1 ≤ (W7.alloc (.cells #[.slice As ns cs] 26)).heap.size) := by show _ ≤ _; have := r7.blk.lt; simp; omega
      have HFs : Hid (setsOf (by_.take (k + 1)) = setsOf (by_.take k) ++ [ofL (b.filter Pfx.good)]) := Lib.hid (by unfold setsOf; rw [take_snoc HX.out]; simp)
      clear r7 k7 l7 hb8
      go_wp2_with (at_builtin; refine wpList_pushB _ rfl (.tmp 57) (.tmp 59) 29 rfl (listR_ok pfxR_ok) (w2.heap.size + 1) 26 ic _ 24 Try.underlying29 hic hc0 hc1 hc2 rfl (by decide) F5 _ (setsOf (by_.take k)) rfl HR8.out.own ⟨W7.heap.size, 0, none⟩ 1 1 [.slice As ns cs] [ofL (b.filter Pfx.good)] rfl rfl hnews.out hone.out HR8.out.grew.lt h63.out h64.out hbase.out ?_)
      intro v9 w9 hv9 hg9 hn9
      obtain ⟨A9, c9, rfl⟩ := hv9.form
      have HR9 := Lib.hid (HR8.out.push hv9 hg9)
      clear hv9 hg9 hn9
      go_wp2_with fail
      go_roundw
      case rel => exact ⟨_, _, _, _, k + 1, by omega, by go_num, rfl, Lib.hid (by rw [HFs.out]; exact HR9.out)⟩
      case measure => simp [intOf]; omega
    · have hkk : by_.take k = by_ := List.take_of_length_le (by have := HU.out.len.1; omega)
      rw [hkk] at HR
      obtain ⟨bys, hbys⟩ : ∃ bys, bys = setsOf by_ := ⟨_, rfl⟩
      have hsrt := setsOf_sorted by_
      rw [← hbys] at HR hsrt
      have hm1 : m1 = bys.length := by obtain ⟨A', c', e⟩ := HR.out.own.form; cases e; rfl
      have hm8 : m1 ≤ 8 := by rw [hm1, hbys]; unfold setsOf; rw [List.length_map]; have := HU.out.len.1; omega
      have HSB := Lib.hid hsrt
      have HM1 := Lib.hid hm1
      obtain ⟨F3, hF3⟩ : ∃ F3, F3 = fun b => F1 b ∨ (Value.slice A1 m1 c1).ownBlock = some b := ⟨_, rfl⟩
      have hg3 := HR.out.grew.own HR.out.own (by have := HR.out.hi; omega)
      have hl3 := HR.out.own.freeze (listR_ok pfxR_ok)
      rw [← hF3] at hg3 hl3
      have HG := Lib.hid hg3
      have HLS := Lib.hid hl3
      have HLA := Lib.hid ((listR_ok pfxR_ok).keep (w' := wr) (F' := F3) HR.out.lall (fun _ _ => rfl) fun b hb => by rw [hF3]; exact .inl hb)
      have HKA := Lib.hid HR.out.blk
      have x1 := HKA.out.cell 0
      have hgrp := set_Group wr F3 Aa na ca all A1 m1 c1 bys HLA.out HLS.out HG.out.lt HSB.out (by omega) (by omega)
      have Hgrp := Lib.hid hgrp
      have Hpart := Lib.hid (parted (bys := bys) HSS.out)
      clear hF3 hg3 hl3 hsrt hkk hbys hm1 HR hgrp HU HUr
      go_wp2_with fail
      refine Hgrp.out.mono ?_
      rintro e w3 ⟨Ag, ng, cg, F4, rfl, hg4, hl4⟩
      obtain ⟨gs, hgs⟩ : ∃ gs, gs = groupL bys all := ⟨_, rfl⟩
      rw [← hgs] at hl4 Hpart
      have hng := hl4.len.1
      have HNG := Lib.hid hng
      have HG4 := Lib.hid (HG.out.trans hg4)
      have HLS4 := Lib.hid ((listR_ok (listR_ok pfxR_ok)).grew HLS.out hg4 HG.out.lt)
      have HLA4 := Lib.hid ((listR_ok pfxR_ok).grew HLA.out hg4 HG.out.lt)
      have HKA4 := Lib.hid (HKA.out.below hg4.below HKA.out.lt)
      have HLG4 := Lib.hid hl4
      clear hg4 hl4 hng hgs x1 Hgrp HG HLS HLA HKA
      go_upto_region 16 with fail
      have HFr := Lib.hid HG4.out.lt
      have hng63 : ng ≤ 9223372036854775807 := by have := HLG4.out.len; unfold maxLen at this; omega
      have HBw := Lib.hid HG4.out.below
      have hsum : Hid (sumL gs = all.length) := Lib.hid Hpart.out.sum
      have Hhas := Lib.hid (fun (x y : Int) (hf : (Pfx.mk x y).Fits) w' (h : Below w3.heap.size w3 w') => set_Has w' F4 Aa na ca all x y ((listR_ok pfxR_ok).below HLA4.out h HFr.out) (HFr.out.below h) HSS.out hf (by omega))
      have Hset := Lib.hid (fun (s : List Pfx) (hs : s ∈ bys) (A' : Option Addr) (c' : Nat) (ls : listR 2 pfxR w3 F4 [.slice A' s.length c'] s) (x y : Int) (hf : (Pfx.mk x y).Fits) w' (h : Below w3.heap.size w3 w') => set_Has w' F4 A' s.length c' s x y ((listR_ok pfxR_ok).below ls h HFr.out) (HFr.out.below h) (HSB.out s hs).1 hf (HSB.out s hs).2)
      clear HG4 HLA4
      go_wp2_with fail
      go_loopw [13, 67] (fun nv i wr => ∃ k : Nat, k ≤ ng ∧ i = .int .i64 k ∧ nv = .int .i64 ((sumL (gs.take k) : Nat) : Int) ∧ Below w3.heap.size w3 wr) (fun _ i _ => ng - (intOf i).toNat)
      case atStart => exact ⟨0, Nat.zero_le _, rfl, rfl, Below.refl _ _⟩
      case round =>
      obtain ⟨k, hk, rfl, rfl, hB⟩ := hrel
      by_cases hlt : k < ng
      rotate_left
      · have hke : sumL (gs.take k) = na := by
          rw [List.take_of_length_le (by have := HNG.out; omega), hsum.out, ← Hna.out]
        rw [hke]
        have x1 := (HKA4.out.below hB HKA4.out.lt).cell 0
        go_wp2_with fail
        refine (set_Len _ _ _ _).mono ?_
        rintro e w5 ⟨rfl, hb5⟩
        go_wp2_with fail
        go_ret
        exact ⟨by simp, HBw.out.trans ((below_step hB hb5).mono HBw.out.size)⟩
      · obtain ⟨wo, rfl⟩ : ∃ wo : World, wo = wr := ⟨_, rfl⟩
        obtain ⟨g, Agk, cgk, bg, og, hx, rfl, hFg, lg, e1⟩ := set_at HLG4.out hlt
        have hcl := (hB.cell (p := ⟨bg, og + k, none⟩) (HFr.out bg hFg)).trans e1
        have hgm : g ∈ gs := List.mem_of_getElem? hx
        have hgp := Hpart.out.each g hgm
        have hglen : 0 < g.length := List.length_pos_iff.2 hgp.1
        have hsn := sumL_snoc hx
        have hsl := sumL_le gs (k + 1)
        have hb30 : sumL (gs.take k) + g.length ≤ 30 := by have := hsum.out; have := Hna.out; omega
        have Hsn := Lib.hid hsn
        have Hgx := Lib.hid hx
        have Hgp := Lib.hid hgp
        have hk0 : (0 : Int) ≤ (k : Int) := by omega
        have hk1 : (k : Int) < (ng : Int) := by omega
        have hba : Below w3.heap.size w3 (wo.alloc (.cells #[.slice Agk g.length cgk] 26)) := hB.alloc hB.size _
        have hlist := set_ListF (wo.alloc (.cells #[.slice Agk g.length cgk] 26)) F4 Agk g.length cgk g ((listR_ok pfxR_ok).below lg hba HFr.out) (HFr.out.below hba) (by omega)
        have Hlist := Lib.hid hlist
        have Hba := Lib.hid hba
        have HLg := Lib.hid lg
        clear hx hsn hsl hgp hba hlist hgm lg e1
        go_wp2_with fail
        refine Hlist.out.mono ?_
        rintro e w5 ⟨A5, c5, F5, rfl, hl5, hF5, hb5⟩
        have HB5 := Lib.hid (below_step Hba.out hb5)
        obtain ⟨⟨x0, y0⟩, hx0⟩ : ∃ q, g[0]? = some q := ⟨_, List.getElem?_eq_getElem hglen⟩
        obtain ⟨b5, o5, rfl, hFb5, hf0, z1, z2⟩ := list_head hl5 hx0
        have HL5 := Lib.hid hl5
        have HF5 := Lib.hid hF5
        have Hx0 := Lib.hid hx0
        have r1 : ∀ w', Below w5.heap.size w5 w' → w'.cell? ⟨b5, o5, none⟩ = some (.int .u32 x0) := fun w' h => (h.cell (p := ⟨b5, _, none⟩) (hF5 b5 hFb5)).trans z1
        have r2 : ∀ w', Below w5.heap.size w5 w' → w'.cell? ⟨b5, o5 + 1, none⟩ = some (.int .i64 y0) := fun w' h => (h.cell (p := ⟨b5, _, none⟩) (hF5 b5 hFb5)).trans z2
        have hWW : Below w5.heap.size w5 w5 := Below.refl _ _
        have hg0 : (0 : Int) < (g.length : Int) := by omega
        clear hl5 hF5 hb5 hx0 z1 z2 Hlist Hba hcl hB
        go_upto_region 22 with fail
        go_cut [99] (fun o wx => o = .bool false ∧ Below w5.heap.size w5 wx)
        case first =>
          as_aux_lemma =>
          have b1 : ((g.length : Int) == 0) = false := by rw [beq_eq_false_iff_ne]; omega
          clear hsum Hhas Hset Hsn
          rcases Nat.eq_zero_or_pos k with hk2 | hk2
          · subst hk2
            refine wp_region_held_drew (S := (fun w' => Below w5.heap.size w5 w')) (by kernel_rfl) ?_ (fun hHeld => ?_)
            · (try dsimp only); (first | (with_reducible exact below_step (by assumption) hb1') | (repeat' (first | (with_reducible exact Below.refl _ _) | (with_reducible assumption) | (with_reducible exact Below.size (by assumption)) | (with_reducible refine Below.drew ?_))))
            refine wpAnyH_take (i := 0) (v := ?_) rfl (by kernel_rfl) (by kernel_rfl) (by kernel_rfl) (fun _ _ _ h => h) (Or.inl ⟨by rfl, ?_⟩) (by assumption) ?_
            rotate_left
            · (intro w hSw; (try dsimp only at hSw); go_simp; first | done | with_reducible rfl)
            try simp only [List.getElem_toArray, List.getElem_cons_zero, List.getElem_cons_succ, Act.put, List.setIfInBounds_toArray, List.set_cons_zero, List.set_cons_succ]
            refine wpAnyH_take (i := 1) (v := ?_) rfl (by kernel_rfl) (by kernel_rfl) (by kernel_rfl) (fun _ _ _ h => h) (Or.inl ⟨by rfl, ?_⟩) (by assumption) ?_
            rotate_left
            · (intro w hSw; (try dsimp only at hSw); go_simp; first | done | with_reducible rfl)
            try simp only [List.getElem_toArray, List.getElem_cons_zero, List.getElem_cons_succ, Act.put, List.setIfInBounds_toArray, List.set_cons_zero, List.set_cons_succ]
            refine wpAnyH_take (i := 2) (v := ?_) rfl (by kernel_rfl) (by kernel_rfl) (by kernel_rfl) (fun _ _ _ h => h) (Or.inl ⟨by rfl, ?_⟩) (by assumption) ?_
            rotate_left
            · (intro w hSw; (try dsimp only at hSw); go_simp; first | done | with_reducible rfl)
            try simp only [List.getElem_toArray, List.getElem_cons_zero, List.getElem_cons_succ, Act.put, List.setIfInBounds_toArray, List.set_cons_zero, List.set_cons_succ]
            refine wpAnyH_take (i := 3) (v := ?_) rfl (by kernel_rfl) (by kernel_rfl) (by kernel_rfl) (fun _ _ _ h => h) (Or.inl ⟨by rfl, ?_⟩) (by assumption) ?_
            rotate_left
            · (intro w hSw; (try dsimp only at hSw); go_simp; first | done | with_reducible rfl)
            try simp only [List.getElem_toArray, List.getElem_cons_zero, List.getElem_cons_succ, Act.put, List.setIfInBounds_toArray, List.set_cons_zero, List.set_cons_succ]
            refine wpAnyH_take (i := 4) (v := ?_) rfl (by kernel_rfl) (by kernel_rfl) (by kernel_rfl) (fun _ _ _ h => h) (Or.inl ⟨by rfl, ?_⟩) (by assumption) ?_
            rotate_left
            · (intro w hSw; (try dsimp only at hSw); go_simp; first | done | with_reducible rfl)
            try simp only [List.getElem_toArray, List.getElem_cons_zero, List.getElem_cons_succ, Act.put, List.setIfInBounds_toArray, List.set_cons_zero, List.set_cons_succ]
            refine wpAnyH_take (i := 5) (v := ?_) rfl (by kernel_rfl) (by kernel_rfl) (by kernel_rfl) (fun _ _ _ h => h) (Or.inl ⟨by rfl, ?_⟩) (by assumption) ?_
            rotate_left
            · (intro w hSw; (try dsimp only at hSw); go_simp; first | done | with_reducible rfl)
            try simp only [List.getElem_toArray, List.getElem_cons_zero, List.getElem_cons_succ, Act.put, List.setIfInBounds_toArray, List.set_cons_zero, List.set_cons_succ]
            refine wpAnyH_take (i := 6) (v := ?_) rfl (by kernel_rfl) (by kernel_rfl) (by kernel_rfl) (fun _ _ _ h => h) (Or.inl ⟨by rfl, ?_⟩) (by assumption) ?_
            rotate_left
            · (intro w hSw; (try dsimp only at hSw); go_simp; first | done | with_reducible rfl)
            try simp only [List.getElem_toArray, List.getElem_cons_zero, List.getElem_cons_succ, Act.put, List.setIfInBounds_toArray, List.set_cons_zero, List.set_cons_succ]
            refine wpAnyH_take (i := 7) (v := undef) rfl (by kernel_rfl) (by kernel_rfl) (by kernel_rfl) (fun _ _ _ h => h) (Or.inr ⟨by rfl, rfl⟩) (by assumption) ?_
            try simp only [List.getElem_toArray, List.getElem_cons_zero, List.getElem_cons_succ, Act.put, List.setIfInBounds_toArray, List.set_cons_zero, List.set_cons_succ]
            refine wpAnyH_take (i := 8) (v := undef) rfl (by kernel_rfl) (by kernel_rfl) (by kernel_rfl) (fun _ _ _ h => h) (Or.inr ⟨by rfl, rfl⟩) (by assumption) ?_
            try simp only [List.getElem_toArray, List.getElem_cons_zero, List.getElem_cons_succ, Act.put, List.setIfInBounds_toArray, List.set_cons_zero, List.set_cons_succ]
            refine wpAnyH_take (i := 9) (v := undef) rfl (by kernel_rfl) (by kernel_rfl) (by kernel_rfl) (fun _ _ _ h => h) (Or.inr ⟨by rfl, rfl⟩) (by assumption) ?_
            try simp only [List.getElem_toArray, List.getElem_cons_zero, List.getElem_cons_succ, Act.put, List.setIfInBounds_toArray, List.set_cons_zero, List.set_cons_succ]
            refine wpAnyH_take (i := 10) (v := undef) rfl (by kernel_rfl) (by kernel_rfl) (by kernel_rfl) (fun _ _ _ h => h) (Or.inr ⟨by rfl, rfl⟩) (by assumption) ?_
            try simp only [List.getElem_toArray, List.getElem_cons_zero, List.getElem_cons_succ, Act.put, List.setIfInBounds_toArray, List.set_cons_zero, List.set_cons_succ]
            refine wpAnyH_take (i := 11) (v := undef) rfl (by kernel_rfl) (by kernel_rfl) (by kernel_rfl) (fun _ _ _ h => h) (Or.inr ⟨by rfl, rfl⟩) (by assumption) ?_
            try simp only [List.getElem_toArray, List.getElem_cons_zero, List.getElem_cons_succ, Act.put, List.setIfInBounds_toArray, List.set_cons_zero, List.set_cons_succ]
            refine wpAnyH_take (i := 12) (v := undef) rfl (by kernel_rfl) (by kernel_rfl) (by kernel_rfl) (fun _ _ _ h => h) (Or.inr ⟨by rfl, rfl⟩) (by assumption) ?_
            try simp only [List.getElem_toArray, List.getElem_cons_zero, List.getElem_cons_succ, Act.put, List.setIfInBounds_toArray, List.set_cons_zero, List.set_cons_succ]
            refine wpAnyH_take (i := 13) (v := undef) rfl (by kernel_rfl) (by kernel_rfl) (by kernel_rfl) (fun _ _ _ h => h) (Or.inr ⟨by rfl, rfl⟩) (by assumption) ?_
            try simp only [List.getElem_toArray, List.getElem_cons_zero, List.getElem_cons_succ, Act.put, List.setIfInBounds_toArray, List.set_cons_zero, List.set_cons_succ]
            refine wpAnyH_take (i := 14) (v := undef) rfl (by kernel_rfl) (by kernel_rfl) (by kernel_rfl) (fun _ _ _ h => h) (Or.inr ⟨by rfl, rfl⟩) (by assumption) ?_
            try simp only [List.getElem_toArray, List.getElem_cons_zero, List.getElem_cons_succ, Act.put, List.setIfInBounds_toArray, List.set_cons_zero, List.set_cons_succ]
            refine wpAnyH_take (i := 15) (v := undef) rfl (by kernel_rfl) (by kernel_rfl) (by kernel_rfl) (fun _ _ _ h => h) (Or.inr ⟨by rfl, rfl⟩) (by assumption) ?_
            try simp only [List.getElem_toArray, List.getElem_cons_zero, List.getElem_cons_succ, Act.put, List.setIfInBounds_toArray, List.set_cons_zero, List.set_cons_succ]
            refine wpAnyH_take (i := 16) (v := undef) rfl (by kernel_rfl) (by kernel_rfl) (by kernel_rfl) (fun _ _ _ h => h) (Or.inr ⟨by rfl, rfl⟩) (by assumption) ?_
            try simp only [List.getElem_toArray, List.getElem_cons_zero, List.getElem_cons_succ, Act.put, List.setIfInBounds_toArray, List.set_cons_zero, List.set_cons_succ]
            refine wpAnyH_take (i := 17) (v := undef) rfl (by kernel_rfl) (by kernel_rfl) (by kernel_rfl) (fun _ _ _ h => h) (Or.inr ⟨by rfl, rfl⟩) (by assumption) ?_
            try simp only [List.getElem_toArray, List.getElem_cons_zero, List.getElem_cons_succ, Act.put, List.setIfInBounds_toArray, List.set_cons_zero, List.set_cons_succ]
            refine wpAnyH_take (i := 18) (v := undef) rfl (by kernel_rfl) (by kernel_rfl) (by kernel_rfl) (fun _ _ _ h => h) (Or.inr ⟨by rfl, rfl⟩) (by assumption) ?_
            try simp only [List.getElem_toArray, List.getElem_cons_zero, List.getElem_cons_succ, Act.put, List.setIfInBounds_toArray, List.set_cons_zero, List.set_cons_succ]
            refine wpAnyH_take (i := 19) (v := undef) rfl (by kernel_rfl) (by kernel_rfl) (by kernel_rfl) (fun _ _ _ h => h) (Or.inr ⟨by rfl, rfl⟩) (by assumption) ?_
            try simp only [List.getElem_toArray, List.getElem_cons_zero, List.getElem_cons_succ, Act.put, List.setIfInBounds_toArray, List.set_cons_zero, List.set_cons_succ]
            refine wpAnyH_take (i := 20) (v := ?_) rfl (by kernel_rfl) (by kernel_rfl) (by kernel_rfl) (fun _ _ _ h => h) (Or.inl ⟨by rfl, ?_⟩) (by assumption) ?_
            rotate_left
            · (intro w hSw; (try dsimp only at hSw); go_simp; first | done | with_reducible rfl)
            try simp only [List.getElem_toArray, List.getElem_cons_zero, List.getElem_cons_succ, Act.put, List.setIfInBounds_toArray, List.set_cons_zero, List.set_cons_succ]
            refine wpAnyH_take (i := 21) (v := ?_) rfl (by kernel_rfl) (by kernel_rfl) (by kernel_rfl) (fun _ _ _ h => h) (Or.inl ⟨by rfl, ?_⟩) (by assumption) ?_
            rotate_left
            · (intro w hSw; (try dsimp only at hSw); go_simp; first | done | with_reducible rfl)
            try simp only [List.getElem_toArray, List.getElem_cons_zero, List.getElem_cons_succ, Act.put, List.setIfInBounds_toArray, List.set_cons_zero, List.set_cons_succ]
            refine wpAnyH_done (by kernel_rfl) ?_ _
            go_wp2_with fail
            go_meet
            exact ⟨rfl, by assumption⟩
          · obtain ⟨k, rfl⟩ : ∃ k', k = k' + 1 := ⟨k - 1, by omega⟩
            obtain ⟨h, Ahk, chk, bh, oh, hxh, heh, hFh, lh, e1⟩ := set_at HLG4.out (k := k) (by omega)
            simp only [Option.some.injEq, Addr.mk.injEq] at heh
            obtain ⟨rfl, rfl, _⟩ := heh
            have hhp := Hpart.out.each h (List.mem_of_getElem? hxh)
            obtain ⟨⟨x7, y7⟩, hx7⟩ : ∃ q, h[0]? = some q := ⟨_, List.getElem?_eq_getElem (List.length_pos_iff.2 hhp.1)⟩
            have hz := Hpart.out.order k (k + 1) h g ⟨x7, y7⟩ ⟨x0, y0⟩ (by omega) hxh Hgx.out hx7 Hx0.out
            have hh30 : h.length ≤ 30 := by have h1 := sumL_snoc hxh; have h2 := sumL_le gs (k + 1); have := hb30; omega
            have r3 : ∀ w', Below w5.heap.size w5 w' → w'.cell? ⟨bg, og + k, none⟩ = some (.slice Ahk h.length chk) := fun w' q => ((below_step HB5.out q).cell (p := ⟨bg, og + k, none⟩) (HFr.out bg hFg)).trans e1
            have HLh := Lib.hid (fun w' (q : Below w5.heap.size w5 w') => set_ListF w' F4 Ahk h.length chk h ((listR_ok pfxR_ok).below lh (below_step HB5.out q) HFr.out) (HFr.out.below (below_step HB5.out q)) (by omega))
            obtain ⟨z, hzz⟩ : ∃ z, z = cmpP ⟨x7, y7⟩ ⟨x0, y0⟩ := ⟨_, rfl⟩
            have Hcmp := Lib.hid (fun w' (hf7 : (Pfx.mk x7 y7).Fits) => ip_CmpB x7 y7 x0 y0 w' hf7 hf0)
            rw [← hzz] at hz
            rw [← hzz] at Hcmp
            have b2 : decide (z ≥ 0) = false := decide_eq_false (by omega)
            have j1 : IntKind.i64.wrap (k : Int) = (k : Int) := by rw [IntKind.wrap_i64]; omega
            have j2 : IntKind.i64.wrap ((k : Int) + 1 - 1) = (k : Int) := by rw [IntKind.wrap_i64]; omega
            have b3 : decide ((k : Int) + 1 > 0) = true := decide_eq_true (by omega)
            have b4 : decide ((0 : Int) < (k : Int) + 1) = true := decide_eq_true (by omega)
            have b5' : (0 : Int) ≤ (k : Int) := by omega
            have b6 : (k : Int) < (ng : Int) := by omega
            have hhl : (0 : Int) < (h.length : Int) := by have := List.length_pos_iff.2 hhp.1; omega
            have hhl2 : 0 < h.length := List.length_pos_iff.2 hhp.1
            have Hx7 := Lib.hid hx7
            clear hxh hhp hx7 hz hzz lh e1
            refine wp_region_held_drew (S := (fun w' => Below w5.heap.size w5 w')) (by kernel_rfl) ?_ (fun hHeld => ?_)
            · (try dsimp only); (first | (with_reducible exact below_step (by assumption) hb1') | (repeat' (first | (with_reducible exact Below.refl _ _) | (with_reducible assumption) | (with_reducible exact Below.size (by assumption)) | (with_reducible refine Below.drew ?_))))
            refine wpAnyH_take (i := 0) (v := ?_) rfl (by kernel_rfl) (by kernel_rfl) (by kernel_rfl) (fun _ _ _ h => h) (Or.inl ⟨by rfl, ?_⟩) (by assumption) ?_
            rotate_left
            · (intro w hSw; (try dsimp only at hSw); go_simp; first | done | with_reducible rfl)
            try simp only [List.getElem_toArray, List.getElem_cons_zero, List.getElem_cons_succ, Act.put, List.setIfInBounds_toArray, List.set_cons_zero, List.set_cons_succ]
            refine wpAnyH_take (i := 1) (v := ?_) rfl (by kernel_rfl) (by kernel_rfl) (by kernel_rfl) (fun _ _ _ h => h) (Or.inl ⟨by rfl, ?_⟩) (by assumption) ?_
            rotate_left
            · (intro w hSw; (try dsimp only at hSw); go_simp; first | done | with_reducible rfl)
            try simp only [List.getElem_toArray, List.getElem_cons_zero, List.getElem_cons_succ, Act.put, List.setIfInBounds_toArray, List.set_cons_zero, List.set_cons_succ]
            refine wpAnyH_take (i := 2) (v := ?_) rfl (by kernel_rfl) (by kernel_rfl) (by kernel_rfl) (fun _ _ _ h => h) (Or.inl ⟨by rfl, ?_⟩) (by assumption) ?_
            rotate_left
            · (intro w hSw; (try dsimp only at hSw); go_simp; first | done | with_reducible rfl)
            try simp only [List.getElem_toArray, List.getElem_cons_zero, List.getElem_cons_succ, Act.put, List.setIfInBounds_toArray, List.set_cons_zero, List.set_cons_succ]
            refine wpAnyH_take (i := 3) (v := ?_) rfl (by kernel_rfl) (by kernel_rfl) (by kernel_rfl) (fun _ _ _ h => h) (Or.inl ⟨by rfl, ?_⟩) (by assumption) ?_
            rotate_left
            · (intro w hSw; (try dsimp only at hSw); go_simp; first | done | with_reducible rfl)
            try simp only [List.getElem_toArray, List.getElem_cons_zero, List.getElem_cons_succ, Act.put, List.setIfInBounds_toArray, List.set_cons_zero, List.set_cons_succ]
            refine wpAnyH_take (i := 4) (v := ?_) rfl (by kernel_rfl) (by kernel_rfl) (by kernel_rfl) (fun _ _ _ h => h) (Or.inl ⟨by rfl, ?_⟩) (by assumption) ?_
            rotate_left
            · (intro w hSw; (try dsimp only at hSw); go_simp; first | done | with_reducible rfl)
            try simp only [List.getElem_toArray, List.getElem_cons_zero, List.getElem_cons_succ, Act.put, List.setIfInBounds_toArray, List.set_cons_zero, List.set_cons_succ]
            refine wpAnyH_take (i := 5) (v := ?_) rfl (by kernel_rfl) (by kernel_rfl) (by kernel_rfl) (fun _ _ _ h => h) (Or.inl ⟨by rfl, ?_⟩) (by assumption) ?_
            rotate_left
            · (intro w hSw; (try dsimp only at hSw); go_simp; first | done | with_reducible rfl)
            try simp only [List.getElem_toArray, List.getElem_cons_zero, List.getElem_cons_succ, Act.put, List.setIfInBounds_toArray, List.set_cons_zero, List.set_cons_succ]
            refine wpAnyH_take (i := 6) (v := ?_) rfl (by kernel_rfl) (by kernel_rfl) (by kernel_rfl) (fun _ _ _ h => h) (Or.inl ⟨by rfl, ?_⟩) (by assumption) ?_
            rotate_left
            · (intro w hSw; (try dsimp only at hSw); go_simp; first | done | with_reducible rfl)
            try simp only [List.getElem_toArray, List.getElem_cons_zero, List.getElem_cons_succ, Act.put, List.setIfInBounds_toArray, List.set_cons_zero, List.set_cons_succ]
            refine wpAnyH_take (i := 7) (v := ?_) rfl (by kernel_rfl) (by kernel_rfl) (by kernel_rfl) (fun _ _ _ h => h) (Or.inl ⟨by rfl, ?_⟩) (by assumption) ?_
            rotate_left
            · (intro w hSw; (try dsimp only at hSw); go_simp; first | done | with_reducible rfl)
            try simp only [List.getElem_toArray, List.getElem_cons_zero, List.getElem_cons_succ, Act.put, List.setIfInBounds_toArray, List.set_cons_zero, List.set_cons_succ]
            refine wpAnyH_take (i := 8) (v := ?_) rfl (by kernel_rfl) (by kernel_rfl) (by kernel_rfl) (fun _ _ _ h => h) (Or.inl ⟨by rfl, ?_⟩) (by assumption) ?_
            rotate_left
            · (intro w hSw; (try dsimp only at hSw); go_simp; first | done | with_reducible rfl)
            try simp only [List.getElem_toArray, List.getElem_cons_zero, List.getElem_cons_succ, Act.put, List.setIfInBounds_toArray, List.set_cons_zero, List.set_cons_succ]
            refine wpAnyH_take (i := 9) (v := ?_) rfl (by kernel_rfl) (by kernel_rfl) (by kernel_rfl) (fun _ _ _ h => h) (Or.inl ⟨by rfl, ?_⟩) (by assumption) ?_
            rotate_left
            · (intro w hSw; (try dsimp only at hSw); go_simp; first | done | with_reducible rfl)
            try simp only [List.getElem_toArray, List.getElem_cons_zero, List.getElem_cons_succ, Act.put, List.setIfInBounds_toArray, List.set_cons_zero, List.set_cons_succ]
            refine wpAnyH_take (i := 10) (v := ?_) rfl (by kernel_rfl) (by kernel_rfl) (by kernel_rfl) (fun _ _ _ h => h) (Or.inl ⟨by rfl, ?_⟩) (by assumption) ?_
            rotate_left
            · (intro w hSw; (try dsimp only at hSw); go_simp; first | done | with_reducible rfl)
            try simp only [List.getElem_toArray, List.getElem_cons_zero, List.getElem_cons_succ, Act.put, List.setIfInBounds_toArray, List.set_cons_zero, List.set_cons_succ]
            refine wpAnyH_take (i := 11) (v := ?_) rfl (by kernel_rfl) (by kernel_rfl) (by kernel_rfl) (fun _ _ _ h => h) (Or.inl ⟨by rfl, ?_⟩) (by assumption) ?_
            rotate_left
            · (intro w hSw; (try dsimp only at hSw); go_simp; first | done | with_reducible rfl)
            try simp only [List.getElem_toArray, List.getElem_cons_zero, List.getElem_cons_succ, Act.put, List.setIfInBounds_toArray, List.set_cons_zero, List.set_cons_succ]
            refine wpAnyH_take (i := 15) (v := ?_) rfl (by kernel_rfl) (by kernel_rfl) (by kernel_rfl) (fun _ _ _ h => h) (Or.inl ⟨by rfl, ?_⟩) (by assumption) ?_
            rotate_left
            · (intro w hSw; (try dsimp only at hSw); go_simp; first | done | with_reducible rfl)
            try simp only [List.getElem_toArray, List.getElem_cons_zero, List.getElem_cons_succ, Act.put, List.setIfInBounds_toArray, List.set_cons_zero, List.set_cons_succ]
            refine wpAnyH_take (i := 16) (v := ?_) rfl (by kernel_rfl) (by kernel_rfl) (by kernel_rfl) (fun _ _ _ h => h) (Or.inl ⟨by rfl, ?_⟩) (by assumption) ?_
            rotate_left
            · (intro w hSw; (try dsimp only at hSw); go_simp; first | done | with_reducible rfl)
            try simp only [List.getElem_toArray, List.getElem_cons_zero, List.getElem_cons_succ, Act.put, List.setIfInBounds_toArray, List.set_cons_zero, List.set_cons_succ]
            refine wpAnyH_take (i := 17) (v := ?_) rfl (by kernel_rfl) (by kernel_rfl) (by kernel_rfl) (fun _ _ _ h => h) (Or.inl ⟨by rfl, ?_⟩) (by assumption) ?_
            rotate_left
            · (intro w hSw; (try dsimp only at hSw); go_simp; first | done | with_reducible rfl)
            try simp only [List.getElem_toArray, List.getElem_cons_zero, List.getElem_cons_succ, Act.put, List.setIfInBounds_toArray, List.set_cons_zero, List.set_cons_succ]
            refine wpAnyH_ready (rs := [12]) (by kernel_rfl) (by simp) ?_
            refine AllReadyH.cons rfl (fun K hK => ?_) AllReadyH.nil
            go_simp
            (go_at_call 12; (with_reducible refine (HLh.out _ ?_).mono ?_); assumption; rintro e u1 ⟨A7, c7, F7, rfl, hl7, hF7, hb1'⟩; have hq : Below w5.heap.size w5 u1 := below_step (by assumption) hb1'; obtain ⟨b7, o7, rfl, hFb7, hf7, e7, e8⟩ := list_head hl7 Hx7.out; clear hl7 hF7)
            go_wp2_with fail
            refine hK.out _ _ ?_ (fun hHeldN => ?_)
            · (try dsimp only); (first | (with_reducible exact below_step (by assumption) hb1') | (repeat' (first | (with_reducible exact Below.refl _ _) | (with_reducible assumption) | (with_reducible exact Below.size (by assumption)) | (with_reducible refine Below.drew ?_))))
            clear hK K hHeld
            try clear hb1' hq
            have hHeld := hHeldN
            clear hHeldN
            try simp only [List.getElem_toArray, List.getElem_cons_zero, List.getElem_cons_succ, Act.put, List.setIfInBounds_toArray, List.set_cons_zero, List.set_cons_succ]
            refine wpAnyH_take (i := 13) (v := ?_) rfl (by kernel_rfl) (by kernel_rfl) (by kernel_rfl) (fun _ _ _ h => h) (Or.inl ⟨by rfl, ?_⟩) (by assumption) ?_
            rotate_left
            · (intro w hSw; (try dsimp only at hSw); go_simp; first | done | with_reducible rfl)
            try simp only [List.getElem_toArray, List.getElem_cons_zero, List.getElem_cons_succ, Act.put, List.setIfInBounds_toArray, List.set_cons_zero, List.set_cons_succ]
            refine wpAnyH_ready (rs := [14]) (by kernel_rfl) (by simp) ?_
            refine AllReadyH.cons rfl (fun K hK => ?_) AllReadyH.nil
            go_simp
            refine hK.out _ _ ?_ (fun hHeldN => ?_)
            · (try dsimp only); (first | (with_reducible exact below_step (by assumption) hb1') | (repeat' (first | (with_reducible exact Below.refl _ _) | (with_reducible assumption) | (with_reducible exact Below.size (by assumption)) | (with_reducible refine Below.drew ?_))))
            clear hK K hHeld
            try clear hb1' hq
            have hHeld := hHeldN
            clear hHeldN
            try simp only [List.getElem_toArray, List.getElem_cons_zero, List.getElem_cons_succ, Act.put, List.setIfInBounds_toArray, List.set_cons_zero, List.set_cons_succ]
            refine wpAnyH_ready (rs := [18]) (by kernel_rfl) (by simp) ?_
            refine AllReadyH.cons rfl (fun K hK => ?_) AllReadyH.nil
            go_simp
            (go_at_call 13; (with_reducible refine (Hcmp.out _ hf7).mono ?_); rintro e u2 ⟨rfl, hb1'⟩; have hq : Below w5.heap.size w5 u2 := below_step (by assumption) hb1')
            go_wp2_with fail
            refine hK.out _ _ ?_ (fun hHeldN => ?_)
            · (try dsimp only); (first | (with_reducible exact below_step (by assumption) hb1') | (repeat' (first | (with_reducible exact Below.refl _ _) | (with_reducible assumption) | (with_reducible exact Below.size (by assumption)) | (with_reducible refine Below.drew ?_))))
            clear hK K hHeld
            try clear hb1' hq
            have hHeld := hHeldN
            clear hHeldN
            try simp only [List.getElem_toArray, List.getElem_cons_zero, List.getElem_cons_succ, Act.put, List.setIfInBounds_toArray, List.set_cons_zero, List.set_cons_succ]
            refine wpAnyH_take (i := 19) (v := ?_) rfl (by kernel_rfl) (by kernel_rfl) (by kernel_rfl) (fun _ _ _ h => h) (Or.inl ⟨by rfl, ?_⟩) (by assumption) ?_
            rotate_left
            · (intro w hSw; (try dsimp only at hSw); go_simp; first | done | with_reducible rfl)
            try simp only [List.getElem_toArray, List.getElem_cons_zero, List.getElem_cons_succ, Act.put, List.setIfInBounds_toArray, List.set_cons_zero, List.set_cons_succ]
            refine wpAnyH_take (i := 20) (v := ?_) rfl (by kernel_rfl) (by kernel_rfl) (by kernel_rfl) (fun _ _ _ h => h) (Or.inl ⟨by rfl, ?_⟩) (by assumption) ?_
            rotate_left
            · (intro w hSw; (try dsimp only at hSw); go_simp; first | done | with_reducible rfl)
            try simp only [List.getElem_toArray, List.getElem_cons_zero, List.getElem_cons_succ, Act.put, List.setIfInBounds_toArray, List.set_cons_zero, List.set_cons_succ]
            refine wpAnyH_take (i := 21) (v := ?_) rfl (by kernel_rfl) (by kernel_rfl) (by kernel_rfl) (fun _ _ _ h => h) (Or.inl ⟨by rfl, ?_⟩) (by assumption) ?_
            rotate_left
            · (intro w hSw; (try dsimp only at hSw); go_simp; first | done | with_reducible rfl)
            try simp only [List.getElem_toArray, List.getElem_cons_zero, List.getElem_cons_succ, Act.put, List.setIfInBounds_toArray, List.set_cons_zero, List.set_cons_succ]
            refine wpAnyH_done (by kernel_rfl) ?_ _
            go_wp2_with fail
            go_meet
            exact ⟨rfl, by assumption⟩
        case rest =>
        clear hWW
        obtain ⟨rfl, hWW⟩ := hcut
        have HL6 := Lib.hid ((listR_ok pfxR_ok).below HL5.out hWW HF5.out)
        have HF6 := Lib.hid (HF5.out.below hWW)
        have HB6 := Lib.hid (below_step HB5.out hWW)
        have r3 : ∀ w', Below wc.heap.size wc w' → w'.cell? ⟨b5, o5, none⟩ = some (.int .u32 x0) := fun w' h => r1 w' (below_step hWW h)
        have r4 : ∀ w', Below wc.heap.size wc w' → w'.cell? ⟨b5, o5 + 1, none⟩ = some (.int .i64 y0) := fun w' h => r2 w' (below_step hWW h)
        clear r1 r2 hWW HL5 HF5 HB5
        obtain ⟨wl, rfl⟩ : ∃ wl : World, wl = wc := ⟨_, rfl⟩
        go_wp2_with fail
        go_loopw [102] (fun i wr => ∃ j : Nat, j ≤ g.length ∧ i = .int .i64 j ∧ Below wl.heap.size wl wr) (fun i _ => g.length - (intOf i).toNat)
        case atStart => exact ⟨0, Nat.zero_le _, rfl, Below.refl _ _⟩
        case round =>
        obtain ⟨j, hj, rfl, hB⟩ := hrel
        by_cases hltj : j < g.length
        · obtain ⟨wj, rfl⟩ : ∃ wj : World, wj = wr := ⟨_, rfl⟩
          obtain ⟨x, y, b, off, hxj, hbo, hFb, hf, c1', c2'⟩ := pfx_at HL6.out hltj
          simp only [Option.some.injEq, Addr.mk.injEq] at hbo
          obtain ⟨rfl, rfl, _⟩ := hbo
          have d1 := (hB.cell (p := ⟨b5, o5 + j * 2, none⟩) (HF6.out b5 hFb)).trans c1'
          have d2 := (hB.cell (p := ⟨b5, o5 + j * 2 + 1, none⟩) (HF6.out b5 hFb)).trans c2'
          have hj0 : (0 : Int) ≤ (j : Int) := by omega
          have hj1 : (j : Int) < (g.length : Int) := by omega
          have hpg : (Pfx.mk x y) ∈ g := List.mem_of_getElem? hxj
          have hall1 : memP all ⟨x, y⟩ = true := memP_iff.2 (Hgp.out.2.2 _ hpg)
          have hsm := Hpart.out.same g (List.mem_of_getElem? Hgx.out) ⟨x, y⟩ hpg ⟨x0, y0⟩ (List.mem_of_getElem? Hx0.out)
          have Hsm := Lib.hid hsm
          have Hxj := Lib.hid hxj
          have Hal := Lib.hid (fun w' (h : Below w3.heap.size w3 w') => Hhas.out x y hf w' h)
          rw [hall1] at Hal
          have hba : Below wl.heap.size wl (wj.alloc (.cells #[.int .u32 x, .int .i64 y] 35)) := hB.alloc hB.size _
          have Hba := Lib.hid hba
          have HNW := Lib.hid (Blk.new wj 35 #[.int .u32 x, .int .i64 y])
          have hbj := hB.size
          clear c1' c2' hpg hall1 hsm hxj hba
          go_upto_region 27 with fail
          refine wp_gen (fun W => Below wl.heap.size wl W ∧ Blk W wj.heap.size 35 #[.int .u32 x, .int .i64 y]) ⟨Hba.out, HNW.out⟩ ?_
          rintro W ⟨hlW, hkW⟩
          have HlW := Lib.hid hlW
          have q1 : ∀ w', Below W.heap.size W w' → w'.cell? ⟨b5, o5, none⟩ = some (.int .u32 x0) := fun w' h => r3 w' (below_step HlW.out h)
          have q2 : ∀ w', Below W.heap.size W w' → w'.cell? ⟨b5, o5 + 1, none⟩ = some (.int .i64 y0) := fun w' h => r4 w' (below_step HlW.out h)
          have q3 : ∀ w', Below W.heap.size W w' → w'.cell? ⟨wj.heap.size, 0, none⟩ = some (.int .u32 x) := fun w' h => (hkW.below h hkW.lt).cell 0
          have q4 : ∀ w', Below W.heap.size W w' → w'.cell? ⟨wj.heap.size, 1, none⟩ = some (.int .i64 y) := fun w' h => (hkW.below h hkW.lt).cell 1
          have HW3 := Lib.hid (below_step HB6.out HlW.out)
          have q5 : ∀ w', Below W.heap.size W w' → w'.cell? ⟨w2.heap.size, 0, none⟩ = some (.slice Aa na ca) := fun w' h => (HKA4.out.below (below_step HW3.out h) HKA4.out.lt).cell 0
          have hWW : Below W.heap.size W W := Below.refl _ _
          clear hlW hkW d1 d2 r3 r4 hB Hba HNW hbj
          go_cut [124] (fun o wx => o = .bool false ∧ Below W.heap.size W wx)
          case first =>
            as_aux_lemma =>
            clear hsum Hhas Hset Hsn Hpart
            have HAL := Lib.hid (fun w' (h : Below W.heap.size W w') => Hal.out w' (below_step HW3.out h))
            rcases Nat.eq_zero_or_pos j with hk2 | hk2
            · subst hk2
              refine wp_region_held_drew (S := (fun w' => Below W.heap.size W w')) (by kernel_rfl) ?_ (fun hHeld => ?_)
              · (try dsimp only); (first | (with_reducible exact below_step (by assumption) hb1') | (repeat' (first | (with_reducible exact Below.refl _ _) | (with_reducible assumption) | (with_reducible exact Below.size (by assumption)) | (with_reducible refine Below.drew ?_))))
              refine wpAnyH_take (i := 0) (v := ?_) rfl (by kernel_rfl) (by kernel_rfl) (by kernel_rfl) (fun _ _ _ h => h) (Or.inl ⟨by rfl, ?_⟩) (by assumption) ?_
              rotate_left
              · (intro w hSw; (try dsimp only at hSw); go_simp; first | done | with_reducible rfl)
              try simp only [List.getElem_toArray, List.getElem_cons_zero, List.getElem_cons_succ, Act.put, List.setIfInBounds_toArray, List.set_cons_zero, List.set_cons_succ]
              refine wpAnyH_take (i := 1) (v := ?_) rfl (by kernel_rfl) (by kernel_rfl) (by kernel_rfl) (fun _ _ _ h => h) (Or.inl ⟨by rfl, ?_⟩) (by assumption) ?_
              rotate_left
              · (intro w hSw; (try dsimp only at hSw); go_simp; first | done | with_reducible rfl)
              try simp only [List.getElem_toArray, List.getElem_cons_zero, List.getElem_cons_succ, Act.put, List.setIfInBounds_toArray, List.set_cons_zero, List.set_cons_succ]
              refine wpAnyH_ready (rs := [2]) (by kernel_rfl) (by simp) ?_
              refine AllReadyH.cons rfl (fun K hK => ?_) AllReadyH.nil
              go_simp
              (go_at_call 14; (with_reducible refine (HAL.out _ ?_).mono ?_); assumption; rintro e u1 ⟨rfl, hb1'⟩; have hq : Below W.heap.size W u1 := below_step (by assumption) hb1')
              go_wp2_with fail
              refine hK.out _ _ ?_ (fun hHeldN => ?_)
              · (try dsimp only); (first | (with_reducible exact below_step (by assumption) hb1') | (repeat' (first | (with_reducible exact Below.refl _ _) | (with_reducible assumption) | (with_reducible exact Below.size (by assumption)) | (with_reducible refine Below.drew ?_))))
              clear hK K hHeld
              try clear hb1' hq
              have hHeld := hHeldN
              clear hHeldN
              try simp only [List.getElem_toArray, List.getElem_cons_zero, List.getElem_cons_succ, Act.put, List.setIfInBounds_toArray, List.set_cons_zero, List.set_cons_succ]
              refine wpAnyH_take (i := 3) (v := ?_) rfl (by kernel_rfl) (by kernel_rfl) (by kernel_rfl) (fun _ _ _ h => h) (Or.inl ⟨by rfl, ?_⟩) (by assumption) ?_
              rotate_left
              · (intro w hSw; (try dsimp only at hSw); go_simp; first | done | with_reducible rfl)
              try simp only [List.getElem_toArray, List.getElem_cons_zero, List.getElem_cons_succ, Act.put, List.setIfInBounds_toArray, List.set_cons_zero, List.set_cons_succ]
              refine wpAnyH_take (i := 4) (v := ?_) rfl (by kernel_rfl) (by kernel_rfl) (by kernel_rfl) (fun _ _ _ h => h) (Or.inl ⟨by rfl, ?_⟩) (by assumption) ?_
              rotate_left
              · (intro w hSw; (try dsimp only at hSw); go_simp; first | done | with_reducible rfl)
              try simp only [List.getElem_toArray, List.getElem_cons_zero, List.getElem_cons_succ, Act.put, List.setIfInBounds_toArray, List.set_cons_zero, List.set_cons_succ]
              refine wpAnyH_take (i := 5) (v := ?_) rfl (by kernel_rfl) (by kernel_rfl) (by kernel_rfl) (fun _ _ _ h => h) (Or.inl ⟨by rfl, ?_⟩) (by assumption) ?_
              rotate_left
              · (intro w hSw; (try dsimp only at hSw); go_simp; first | done | with_reducible rfl)
              try simp only [List.getElem_toArray, List.getElem_cons_zero, List.getElem_cons_succ, Act.put, List.setIfInBounds_toArray, List.set_cons_zero, List.set_cons_succ]
              refine wpAnyH_take (i := 6) (v := ?_) rfl (by kernel_rfl) (by kernel_rfl) (by kernel_rfl) (fun _ _ _ h => h) (Or.inl ⟨by rfl, ?_⟩) (by assumption) ?_
              rotate_left
              · (intro w hSw; (try dsimp only at hSw); go_simp; first | done | with_reducible rfl)
              try simp only [List.getElem_toArray, List.getElem_cons_zero, List.getElem_cons_succ, Act.put, List.setIfInBounds_toArray, List.set_cons_zero, List.set_cons_succ]
              refine wpAnyH_take (i := 7) (v := ?_) rfl (by kernel_rfl) (by kernel_rfl) (by kernel_rfl) (fun _ _ _ h => h) (Or.inl ⟨by rfl, ?_⟩) (by assumption) ?_
              rotate_left
              · (intro w hSw; (try dsimp only at hSw); go_simp; first | done | with_reducible rfl)
              try simp only [List.getElem_toArray, List.getElem_cons_zero, List.getElem_cons_succ, Act.put, List.setIfInBounds_toArray, List.set_cons_zero, List.set_cons_succ]
              refine wpAnyH_take (i := 8) (v := undef) rfl (by kernel_rfl) (by kernel_rfl) (by kernel_rfl) (fun _ _ _ h => h) (Or.inr ⟨by rfl, rfl⟩) (by assumption) ?_
              try simp only [List.getElem_toArray, List.getElem_cons_zero, List.getElem_cons_succ, Act.put, List.setIfInBounds_toArray, List.set_cons_zero, List.set_cons_succ]
              refine wpAnyH_take (i := 9) (v := undef) rfl (by kernel_rfl) (by kernel_rfl) (by kernel_rfl) (fun _ _ _ h => h) (Or.inr ⟨by rfl, rfl⟩) (by assumption) ?_
              try simp only [List.getElem_toArray, List.getElem_cons_zero, List.getElem_cons_succ, Act.put, List.setIfInBounds_toArray, List.set_cons_zero, List.set_cons_succ]
              refine wpAnyH_take (i := 10) (v := undef) rfl (by kernel_rfl) (by kernel_rfl) (by kernel_rfl) (fun _ _ _ h => h) (Or.inr ⟨by rfl, rfl⟩) (by assumption) ?_
              try simp only [List.getElem_toArray, List.getElem_cons_zero, List.getElem_cons_succ, Act.put, List.setIfInBounds_toArray, List.set_cons_zero, List.set_cons_succ]
              refine wpAnyH_take (i := 11) (v := undef) rfl (by kernel_rfl) (by kernel_rfl) (by kernel_rfl) (fun _ _ _ h => h) (Or.inr ⟨by rfl, rfl⟩) (by assumption) ?_
              try simp only [List.getElem_toArray, List.getElem_cons_zero, List.getElem_cons_succ, Act.put, List.setIfInBounds_toArray, List.set_cons_zero, List.set_cons_succ]
              refine wpAnyH_take (i := 12) (v := undef) rfl (by kernel_rfl) (by kernel_rfl) (by kernel_rfl) (fun _ _ _ h => h) (Or.inr ⟨by rfl, rfl⟩) (by assumption) ?_
              try simp only [List.getElem_toArray, List.getElem_cons_zero, List.getElem_cons_succ, Act.put, List.setIfInBounds_toArray, List.set_cons_zero, List.set_cons_succ]
              refine wpAnyH_take (i := 13) (v := undef) rfl (by kernel_rfl) (by kernel_rfl) (by kernel_rfl) (fun _ _ _ h => h) (Or.inr ⟨by rfl, rfl⟩) (by assumption) ?_
              try simp only [List.getElem_toArray, List.getElem_cons_zero, List.getElem_cons_succ, Act.put, List.setIfInBounds_toArray, List.set_cons_zero, List.set_cons_succ]
              refine wpAnyH_take (i := 14) (v := undef) rfl (by kernel_rfl) (by kernel_rfl) (by kernel_rfl) (fun _ _ _ h => h) (Or.inr ⟨by rfl, rfl⟩) (by assumption) ?_
              try simp only [List.getElem_toArray, List.getElem_cons_zero, List.getElem_cons_succ, Act.put, List.setIfInBounds_toArray, List.set_cons_zero, List.set_cons_succ]
              refine wpAnyH_take (i := 15) (v := undef) rfl (by kernel_rfl) (by kernel_rfl) (by kernel_rfl) (fun _ _ _ h => h) (Or.inr ⟨by rfl, rfl⟩) (by assumption) ?_
              try simp only [List.getElem_toArray, List.getElem_cons_zero, List.getElem_cons_succ, Act.put, List.setIfInBounds_toArray, List.set_cons_zero, List.set_cons_succ]
              refine wpAnyH_take (i := 16) (v := ?_) rfl (by kernel_rfl) (by kernel_rfl) (by kernel_rfl) (fun _ _ _ h => h) (Or.inl ⟨by rfl, ?_⟩) (by assumption) ?_
              rotate_left
              · (intro w hSw; (try dsimp only at hSw); go_simp; first | done | with_reducible rfl)
              try simp only [List.getElem_toArray, List.getElem_cons_zero, List.getElem_cons_succ, Act.put, List.setIfInBounds_toArray, List.set_cons_zero, List.set_cons_succ]
              refine wpAnyH_take (i := 17) (v := ?_) rfl (by kernel_rfl) (by kernel_rfl) (by kernel_rfl) (fun _ _ _ h => h) (Or.inl ⟨by rfl, ?_⟩) (by assumption) ?_
              rotate_left
              · (intro w hSw; (try dsimp only at hSw); go_simp; first | done | with_reducible rfl)
              try simp only [List.getElem_toArray, List.getElem_cons_zero, List.getElem_cons_succ, Act.put, List.setIfInBounds_toArray, List.set_cons_zero, List.set_cons_succ]
              refine wpAnyH_done (by kernel_rfl) ?_ _
              go_wp2_with fail
              go_meet
              exact ⟨rfl, by assumption⟩
            · obtain ⟨j, rfl⟩ : ∃ j', j = j' + 1 := ⟨j - 1, by omega⟩
              obtain ⟨x7, y7, b, off, hx7, hbo, hFb7, hf7, e7, e8⟩ := pfx_at HL6.out (k := j) (by omega)
              simp only [Option.some.injEq, Addr.mk.injEq] at hbo
              obtain ⟨rfl, rfl, _⟩ := hbo
              have q6 : ∀ w', Below W.heap.size W w' → w'.cell? ⟨b5, o5 + j * 2, none⟩ = some (.int .u32 x7) := fun w' h => ((below_step HlW.out h).cell (p := ⟨b5, _, none⟩) (HF6.out b5 hFb7)).trans e7
              have q7 : ∀ w', Below W.heap.size W w' → w'.cell? ⟨b5, o5 + j * 2 + 1, none⟩ = some (.int .i64 y7) := fun w' h => ((below_step HlW.out h).cell (p := ⟨b5, _, none⟩) (HF6.out b5 hFb7)).trans e8
              have hz : cmpP ⟨x7, y7⟩ ⟨x, y⟩ < 0 := by
                obtain ⟨i1, i2⟩ := List.getElem?_eq_some_iff.1 hx7
                obtain ⟨i3, i4⟩ := List.getElem?_eq_some_iff.1 Hxj.out
                have := List.pairwise_iff_getElem.1 Hgp.out.2.1 j (j + 1) i1 i3 (by omega)
                rwa [i2, i4] at this
              obtain ⟨z, hzz⟩ : ∃ z, z = cmpP ⟨x7, y7⟩ ⟨x, y⟩ := ⟨_, rfl⟩
              have Hcmp := Lib.hid (fun w' => ip_CmpB x7 y7 x y w' hf7 hf)
              rw [← hzz] at hz
              rw [← hzz] at Hcmp
              have b2 : decide (z ≥ 0) = false := decide_eq_false (by omega)
              have j1 : IntKind.i64.wrap (j : Int) = (j : Int) := by rw [IntKind.wrap_i64]; omega
              have j2 : IntKind.i64.wrap ((j : Int) + 1 - 1) = (j : Int) := by rw [IntKind.wrap_i64]; omega
              have b3 : decide ((j : Int) + 1 > 0) = true := decide_eq_true (by omega)
              have b4 : decide ((0 : Int) < (j : Int) + 1) = true := decide_eq_true (by omega)
              have b5' : (0 : Int) ≤ (j : Int) := by omega
              have b6 : (j : Int) < (g.length : Int) := by omega
              clear hx7 e7 e8 hzz hz
              refine wp_region_held_drew (S := (fun w' => Below W.heap.size W w')) (by kernel_rfl) ?_ (fun hHeld => ?_)
              · (try dsimp only); (first | (with_reducible exact below_step (by assumption) hb1') | (repeat' (first | (with_reducible exact Below.refl _ _) | (with_reducible assumption) | (with_reducible exact Below.size (by assumption)) | (with_reducible refine Below.drew ?_))))
              refine wpAnyH_take (i := 0) (v := ?_) rfl (by kernel_rfl) (by kernel_rfl) (by kernel_rfl) (fun _ _ _ h => h) (Or.inl ⟨by rfl, ?_⟩) (by assumption) ?_
              rotate_left
              · (intro w hSw; (try dsimp only at hSw); go_simp; first | done | with_reducible rfl)
              try simp only [List.getElem_toArray, List.getElem_cons_zero, List.getElem_cons_succ, Act.put, List.setIfInBounds_toArray, List.set_cons_zero, List.set_cons_succ]
              refine wpAnyH_take (i := 1) (v := ?_) rfl (by kernel_rfl) (by kernel_rfl) (by kernel_rfl) (fun _ _ _ h => h) (Or.inl ⟨by rfl, ?_⟩) (by assumption) ?_
              rotate_left
              · (intro w hSw; (try dsimp only at hSw); go_simp; first | done | with_reducible rfl)
              try simp only [List.getElem_toArray, List.getElem_cons_zero, List.getElem_cons_succ, Act.put, List.setIfInBounds_toArray, List.set_cons_zero, List.set_cons_succ]
              refine wpAnyH_ready (rs := [2]) (by kernel_rfl) (by simp) ?_
              refine AllReadyH.cons rfl (fun K hK => ?_) AllReadyH.nil
              go_simp
              (go_at_call 14; (with_reducible refine (HAL.out _ ?_).mono ?_); assumption; rintro e u1 ⟨rfl, hb1'⟩; have hq : Below W.heap.size W u1 := below_step (by assumption) hb1')
              go_wp2_with fail
              refine hK.out _ _ ?_ (fun hHeldN => ?_)
              · (try dsimp only); (first | (with_reducible exact below_step (by assumption) hb1') | (repeat' (first | (with_reducible exact Below.refl _ _) | (with_reducible assumption) | (with_reducible exact Below.size (by assumption)) | (with_reducible refine Below.drew ?_))))
              clear hK K hHeld
              try clear hb1' hq
              have hHeld := hHeldN
              clear hHeldN
              try simp only [List.getElem_toArray, List.getElem_cons_zero, List.getElem_cons_succ, Act.put, List.setIfInBounds_toArray, List.set_cons_zero, List.set_cons_succ]
              refine wpAnyH_take (i := 3) (v := ?_) rfl (by kernel_rfl) (by kernel_rfl) (by kernel_rfl) (fun _ _ _ h => h) (Or.inl ⟨by rfl, ?_⟩) (by assumption) ?_
              rotate_left
              · (intro w hSw; (try dsimp only at hSw); go_simp; first | done | with_reducible rfl)
              try simp only [List.getElem_toArray, List.getElem_cons_zero, List.getElem_cons_succ, Act.put, List.setIfInBounds_toArray, List.set_cons_zero, List.set_cons_succ]
              refine wpAnyH_take (i := 4) (v := ?_) rfl (by kernel_rfl) (by kernel_rfl) (by kernel_rfl) (fun _ _ _ h => h) (Or.inl ⟨by rfl, ?_⟩) (by assumption) ?_
              rotate_left
              · (intro w hSw; (try dsimp only at hSw); go_simp; first | done | with_reducible rfl)
              try simp only [List.getElem_toArray, List.getElem_cons_zero, List.getElem_cons_succ, Act.put, List.setIfInBounds_toArray, List.set_cons_zero, List.set_cons_succ]
              refine wpAnyH_take (i := 5) (v := ?_) rfl (by kernel_rfl) (by kernel_rfl) (by kernel_rfl) (fun _ _ _ h => h) (Or.inl ⟨by rfl, ?_⟩) (by assumption) ?_
              rotate_left
              · (intro w hSw; (try dsimp only at hSw); go_simp; first | done | with_reducible rfl)
              try simp only [List.getElem_toArray, List.getElem_cons_zero, List.getElem_cons_succ, Act.put, List.setIfInBounds_toArray, List.set_cons_zero, List.set_cons_succ]
              refine wpAnyH_take (i := 6) (v := ?_) rfl (by kernel_rfl) (by kernel_rfl) (by kernel_rfl) (fun _ _ _ h => h) (Or.inl ⟨by rfl, ?_⟩) (by assumption) ?_
              rotate_left
              · (intro w hSw; (try dsimp only at hSw); go_simp; first | done | with_reducible rfl)
              try simp only [List.getElem_toArray, List.getElem_cons_zero, List.getElem_cons_succ, Act.put, List.setIfInBounds_toArray, List.set_cons_zero, List.set_cons_succ]
              refine wpAnyH_take (i := 7) (v := ?_) rfl (by kernel_rfl) (by kernel_rfl) (by kernel_rfl) (fun _ _ _ h => h) (Or.inl ⟨by rfl, ?_⟩) (by assumption) ?_
              rotate_left
              · (intro w hSw; (try dsimp only at hSw); go_simp; first | done | with_reducible rfl)
              try simp only [List.getElem_toArray, List.getElem_cons_zero, List.getElem_cons_succ, Act.put, List.setIfInBounds_toArray, List.set_cons_zero, List.set_cons_succ]
              refine wpAnyH_take (i := 8) (v := ?_) rfl (by kernel_rfl) (by kernel_rfl) (by kernel_rfl) (fun _ _ _ h => h) (Or.inl ⟨by rfl, ?_⟩) (by assumption) ?_
              rotate_left
              · (intro w hSw; (try dsimp only at hSw); go_simp; first | done | with_reducible rfl)
              try simp only [List.getElem_toArray, List.getElem_cons_zero, List.getElem_cons_succ, Act.put, List.setIfInBounds_toArray, List.set_cons_zero, List.set_cons_succ]
              refine wpAnyH_take (i := 9) (v := ?_) rfl (by kernel_rfl) (by kernel_rfl) (by kernel_rfl) (fun _ _ _ h => h) (Or.inl ⟨by rfl, ?_⟩) (by assumption) ?_
              rotate_left
              · (intro w hSw; (try dsimp only at hSw); go_simp; first | done | with_reducible rfl)
              try simp only [List.getElem_toArray, List.getElem_cons_zero, List.getElem_cons_succ, Act.put, List.setIfInBounds_toArray, List.set_cons_zero, List.set_cons_succ]
              refine wpAnyH_take (i := 10) (v := ?_) rfl (by kernel_rfl) (by kernel_rfl) (by kernel_rfl) (fun _ _ _ h => h) (Or.inl ⟨by rfl, ?_⟩) (by assumption) ?_
              rotate_left
              · (intro w hSw; (try dsimp only at hSw); go_simp; first | done | with_reducible rfl)
              try simp only [List.getElem_toArray, List.getElem_cons_zero, List.getElem_cons_succ, Act.put, List.setIfInBounds_toArray, List.set_cons_zero, List.set_cons_succ]
              refine wpAnyH_take (i := 11) (v := ?_) rfl (by kernel_rfl) (by kernel_rfl) (by kernel_rfl) (fun _ _ _ h => h) (Or.inl ⟨by rfl, ?_⟩) (by assumption) ?_
              rotate_left
              · (intro w hSw; (try dsimp only at hSw); go_simp; first | done | with_reducible rfl)
              try simp only [List.getElem_toArray, List.getElem_cons_zero, List.getElem_cons_succ, Act.put, List.setIfInBounds_toArray, List.set_cons_zero, List.set_cons_succ]
              refine wpAnyH_take (i := 12) (v := ?_) rfl (by kernel_rfl) (by kernel_rfl) (by kernel_rfl) (fun _ _ _ h => h) (Or.inl ⟨by rfl, ?_⟩) (by assumption) ?_
              rotate_left
              · (intro w hSw; (try dsimp only at hSw); go_simp; first | done | with_reducible rfl)
              try simp only [List.getElem_toArray, List.getElem_cons_zero, List.getElem_cons_succ, Act.put, List.setIfInBounds_toArray, List.set_cons_zero, List.set_cons_succ]
              refine wpAnyH_take (i := 13) (v := ?_) rfl (by kernel_rfl) (by kernel_rfl) (by kernel_rfl) (fun _ _ _ h => h) (Or.inl ⟨by rfl, ?_⟩) (by assumption) ?_
              rotate_left
              · (intro w hSw; (try dsimp only at hSw); go_simp; first | done | with_reducible rfl)
              try simp only [List.getElem_toArray, List.getElem_cons_zero, List.getElem_cons_succ, Act.put, List.setIfInBounds_toArray, List.set_cons_zero, List.set_cons_succ]
              refine wpAnyH_ready (rs := [14]) (by kernel_rfl) (by simp) ?_
              refine AllReadyH.cons rfl (fun K hK => ?_) AllReadyH.nil
              go_simp
              (go_at_call 13; (with_reducible refine (Hcmp.out _).mono ?_); rintro e u2 ⟨rfl, hb1'⟩; have hq : Below W.heap.size W u2 := below_step (by assumption) hb1')
              go_wp2_with fail
              refine hK.out _ _ ?_ (fun hHeldN => ?_)
              · (try dsimp only); (first | (with_reducible exact below_step (by assumption) hb1') | (repeat' (first | (with_reducible exact Below.refl _ _) | (with_reducible assumption) | (with_reducible exact Below.size (by assumption)) | (with_reducible refine Below.drew ?_))))
              clear hK K hHeld
              try clear hb1' hq
              have hHeld := hHeldN
              clear hHeldN
              try simp only [List.getElem_toArray, List.getElem_cons_zero, List.getElem_cons_succ, Act.put, List.setIfInBounds_toArray, List.set_cons_zero, List.set_cons_succ]
              refine wpAnyH_take (i := 15) (v := ?_) rfl (by kernel_rfl) (by kernel_rfl) (by kernel_rfl) (fun _ _ _ h => h) (Or.inl ⟨by rfl, ?_⟩) (by assumption) ?_
              rotate_left
              · (intro w hSw; (try dsimp only at hSw); go_simp; first | done | with_reducible rfl)
              try simp only [List.getElem_toArray, List.getElem_cons_zero, List.getElem_cons_succ, Act.put, List.setIfInBounds_toArray, List.set_cons_zero, List.set_cons_succ]
              refine wpAnyH_take (i := 16) (v := ?_) rfl (by kernel_rfl) (by kernel_rfl) (by kernel_rfl) (fun _ _ _ h => h) (Or.inl ⟨by rfl, ?_⟩) (by assumption) ?_
              rotate_left
              · (intro w hSw; (try dsimp only at hSw); go_simp; first | done | with_reducible rfl)
              try simp only [List.getElem_toArray, List.getElem_cons_zero, List.getElem_cons_succ, Act.put, List.setIfInBounds_toArray, List.set_cons_zero, List.set_cons_succ]
              refine wpAnyH_take (i := 17) (v := ?_) rfl (by kernel_rfl) (by kernel_rfl) (by kernel_rfl) (fun _ _ _ h => h) (Or.inl ⟨by rfl, ?_⟩) (by assumption) ?_
              rotate_left
              · (intro w hSw; (try dsimp only at hSw); go_simp; first | done | with_reducible rfl)
              try simp only [List.getElem_toArray, List.getElem_cons_zero, List.getElem_cons_succ, Act.put, List.setIfInBounds_toArray, List.set_cons_zero, List.set_cons_succ]
              refine wpAnyH_done (by kernel_rfl) ?_ _
              go_wp2_with fail
              go_meet
              exact ⟨rfl, by assumption⟩
          case rest =>
          clear hWW
          obtain ⟨rfl, hWW⟩ := hcut
          obtain ⟨wd, rfl⟩ : ∃ wd : World, wd = wc := ⟨_, rfl⟩
          have HWd := Lib.hid (below_step HW3.out hWW)
          have HlD := Lib.hid (below_step HlW.out hWW)
          have p1 : ∀ w', Below wd.heap.size wd w' → w'.cell? ⟨b5, o5, none⟩ = some (.int .u32 x0) := fun w' h => q1 w' (below_step hWW h)
          have p2 : ∀ w', Below wd.heap.size wd w' → w'.cell? ⟨b5, o5 + 1, none⟩ = some (.int .i64 y0) := fun w' h => q2 w' (below_step hWW h)
          have p3 : ∀ w', Below wd.heap.size wd w' → w'.cell? ⟨wj.heap.size, 0, none⟩ = some (.int .u32 x) := fun w' h => q3 w' (below_step hWW h)
          have p4 : ∀ w', Below wd.heap.size wd w' → w'.cell? ⟨wj.heap.size, 1, none⟩ = some (.int .i64 y) := fun w' h => q4 w' (below_step hWW h)
          clear q1 q2 q3 q4 q5 hWW HW3 HlW Hal
          go_wp2_with fail
          go_loopw [127] (fun i wr => ∃ t : Nat, t ≤ m1 ∧ i = .int .i64 t ∧ Below wd.heap.size wd wr) (fun i _ => m1 - (intOf i).toNat)
          case atStart => exact ⟨0, Nat.zero_le _, rfl, Below.refl _ _⟩
          case round =>
          obtain ⟨t, ht, rfl, hB⟩ := hrel
          by_cases hltt : t < m1
          · obtain ⟨s, As, cs, bs, os, hxs, rfl, hFs, ls, e1⟩ := set_at HLS4.out hltt
            have hcl := ((below_step HWd.out hB).cell (p := ⟨bs, os + t, none⟩) (HFr.out bs hFs)).trans e1
            have hsb : s ∈ bys := List.mem_of_getElem? hxs
            have ht0 : (0 : Int) ≤ (t : Int) := by omega
            have ht1 : (t : Int) < (m1 : Int) := by omega
            obtain ⟨u, hu⟩ : ∃ u, u = memP s ⟨x, y⟩ := ⟨_, rfl⟩
            have H1 := Lib.hid (fun w' (h : Below w3.heap.size w3 w') => Hset.out s hsb As cs ls x y hf w' h)
            have H2 := Lib.hid (fun w' (h : Below w3.heap.size w3 w') => Hset.out s hsb As cs ls x0 y0 hf0 w' h)
            rw [← Hsm.out s hsb] at H2
            rw [← hu] at H1 H2
            have hba : Below wd.heap.size wd (wr.alloc (.cells #[.slice As s.length cs] 26)) := hB.alloc hB.size _
            have Hba := Lib.hid hba
            have HNW := Lib.hid (Blk.new wr 26 #[.slice As s.length cs])
            clear hu hxs hsb ls e1 hba
            go_upto_region 32 with fail
            refine wp_gen (fun W => Below wd.heap.size wd W ∧ Blk W wr.heap.size 26 #[.slice As s.length cs]) ⟨Hba.out, HNW.out⟩ ?_
            rintro W ⟨hdW, hkW⟩
            have HdW := Lib.hid hdW
            have HW3 := Lib.hid (below_step HWd.out hdW)
            have q1 : ∀ w', Below W.heap.size W w' → w'.cell? ⟨b5, o5, none⟩ = some (.int .u32 x0) := fun w' h => p1 w' (below_step HdW.out h)
            have q2 : ∀ w', Below W.heap.size W w' → w'.cell? ⟨b5, o5 + 1, none⟩ = some (.int .i64 y0) := fun w' h => p2 w' (below_step HdW.out h)
            have q3 : ∀ w', Below W.heap.size W w' → w'.cell? ⟨wj.heap.size, 0, none⟩ = some (.int .u32 x) := fun w' h => p3 w' (below_step HdW.out h)
            have q4 : ∀ w', Below W.heap.size W w' → w'.cell? ⟨wj.heap.size, 1, none⟩ = some (.int .i64 y) := fun w' h => p4 w' (below_step HdW.out h)
            have q5 : ∀ w', Below W.heap.size W w' → w'.cell? ⟨wr.heap.size, 0, none⟩ = some (.slice As s.length cs) := fun w' h => (hkW.below h hkW.lt).cell 0
            have C1 := Lib.hid (fun w' (h : Below W.heap.size W w') => H1.out w' (below_step HW3.out h))
            have C2 := Lib.hid (fun w' (h : Below W.heap.size W w') => H2.out w' (below_step HW3.out h))
            have hWW : Below W.heap.size W W := Below.refl _ _
            clear hdW hkW hcl p1 p2 p3 p4 hB Hba HNW H1 H2
            refine wp_region_held_drew (S := (fun w' => Below W.heap.size W w')) (by kernel_rfl) ?_ (fun hHeld => ?_)
            · (try dsimp only); (first | (with_reducible exact below_step (by assumption) hb1') | (repeat' (first | (with_reducible exact Below.refl _ _) | (with_reducible assumption) | (with_reducible exact Below.size (by assumption)) | (with_reducible refine Below.drew ?_))))
            refine wpAnyH_take (i := 0) (v := ?_) rfl (by kernel_rfl) (by kernel_rfl) (by kernel_rfl) (fun _ _ _ h => h) (Or.inl ⟨by rfl, ?_⟩) (by assumption) ?_
            rotate_left
            · (intro w hSw; (try dsimp only at hSw); go_simp; first | done | with_reducible rfl)
            try simp only [List.getElem_toArray, List.getElem_cons_zero, List.getElem_cons_succ, Act.put, List.setIfInBounds_toArray, List.set_cons_zero, List.set_cons_succ]
            refine wpAnyH_take (i := 1) (v := ?_) rfl (by kernel_rfl) (by kernel_rfl) (by kernel_rfl) (fun _ _ _ h => h) (Or.inl ⟨by rfl, ?_⟩) (by assumption) ?_
            rotate_left
            · (intro w hSw; (try dsimp only at hSw); go_simp; first | done | with_reducible rfl)
            try simp only [List.getElem_toArray, List.getElem_cons_zero, List.getElem_cons_succ, Act.put, List.setIfInBounds_toArray, List.set_cons_zero, List.set_cons_succ]
            refine wpAnyH_take (i := 3) (v := ?_) rfl (by kernel_rfl) (by kernel_rfl) (by kernel_rfl) (fun _ _ _ h => h) (Or.inl ⟨by rfl, ?_⟩) (by assumption) ?_
            rotate_left
            · (intro w hSw; (try dsimp only at hSw); go_simp; first | done | with_reducible rfl)
            try simp only [List.getElem_toArray, List.getElem_cons_zero, List.getElem_cons_succ, Act.put, List.setIfInBounds_toArray, List.set_cons_zero, List.set_cons_succ]
            refine wpAnyH_take (i := 4) (v := ?_) rfl (by kernel_rfl) (by kernel_rfl) (by kernel_rfl) (fun _ _ _ h => h) (Or.inl ⟨by rfl, ?_⟩) (by assumption) ?_
            rotate_left
            · (intro w hSw; (try dsimp only at hSw); go_simp; first | done | with_reducible rfl)
            try simp only [List.getElem_toArray, List.getElem_cons_zero, List.getElem_cons_succ, Act.put, List.setIfInBounds_toArray, List.set_cons_zero, List.set_cons_succ]
            refine wpAnyH_take (i := 5) (v := ?_) rfl (by kernel_rfl) (by kernel_rfl) (by kernel_rfl) (fun _ _ _ h => h) (Or.inl ⟨by rfl, ?_⟩) (by assumption) ?_
            rotate_left
            · (intro w hSw; (try dsimp only at hSw); go_simp; first | done | with_reducible rfl)
            try simp only [List.getElem_toArray, List.getElem_cons_zero, List.getElem_cons_succ, Act.put, List.setIfInBounds_toArray, List.set_cons_zero, List.set_cons_succ]
            refine wpAnyH_take (i := 6) (v := ?_) rfl (by kernel_rfl) (by kernel_rfl) (by kernel_rfl) (fun _ _ _ h => h) (Or.inl ⟨by rfl, ?_⟩) (by assumption) ?_
            rotate_left
            · (intro w hSw; (try dsimp only at hSw); go_simp; first | done | with_reducible rfl)
            try simp only [List.getElem_toArray, List.getElem_cons_zero, List.getElem_cons_succ, Act.put, List.setIfInBounds_toArray, List.set_cons_zero, List.set_cons_succ]
            refine wpAnyH_ready (rs := [2]) (by kernel_rfl) (by simp) ?_
            refine AllReadyH.cons rfl (fun K hK => ?_) AllReadyH.nil
            go_simp
            (go_at_call 14; (with_reducible refine (C1.out _ ?_).mono ?_); assumption; rintro e u1 ⟨rfl, hb1'⟩; have hq : Below W.heap.size W u1 := below_step (by assumption) hb1')
            go_wp2_with fail
            refine hK.out _ _ ?_ (fun hHeldN => ?_)
            · (try dsimp only); (first | (with_reducible exact below_step (by assumption) hb1') | (repeat' (first | (with_reducible exact Below.refl _ _) | (with_reducible assumption) | (with_reducible exact Below.size (by assumption)) | (with_reducible refine Below.drew ?_))))
            clear hK K hHeld
            try clear hb1' hq
            have hHeld := hHeldN
            clear hHeldN
            try simp only [List.getElem_toArray, List.getElem_cons_zero, List.getElem_cons_succ, Act.put, List.setIfInBounds_toArray, List.set_cons_zero, List.set_cons_succ]
            refine wpAnyH_ready (rs := [7]) (by kernel_rfl) (by simp) ?_
            refine AllReadyH.cons rfl (fun K hK => ?_) AllReadyH.nil
            go_simp
            (go_at_call 14; (with_reducible refine (C2.out _ ?_).mono ?_); assumption; rintro e u1 ⟨rfl, hb1'⟩; have hq : Below W.heap.size W u1 := below_step (by assumption) hb1')
            go_wp2_with fail
            refine hK.out _ _ ?_ (fun hHeldN => ?_)
            · (try dsimp only); (first | (with_reducible exact below_step (by assumption) hb1') | (repeat' (first | (with_reducible exact Below.refl _ _) | (with_reducible assumption) | (with_reducible exact Below.size (by assumption)) | (with_reducible refine Below.drew ?_))))
            clear hK K hHeld
            try clear hb1' hq
            have hHeld := hHeldN
            clear hHeldN
            try simp only [List.getElem_toArray, List.getElem_cons_zero, List.getElem_cons_succ, Act.put, List.setIfInBounds_toArray, List.set_cons_zero, List.set_cons_succ]
            refine wpAnyH_take (i := 8) (v := ?_) rfl (by kernel_rfl) (by kernel_rfl) (by kernel_rfl) (fun _ _ _ h => h) (Or.inl ⟨by rfl, ?_⟩) (by assumption) ?_
            rotate_left
            · (intro w hSw; (try dsimp only at hSw); go_simp; first | done | with_reducible rfl)
            try simp only [List.getElem_toArray, List.getElem_cons_zero, List.getElem_cons_succ, Act.put, List.setIfInBounds_toArray, List.set_cons_zero, List.set_cons_succ]
            refine wpAnyH_done (by kernel_rfl) ?_ _
            go_wp2_with fail
            go_roundw
            case rel => exact ⟨t + 1, by omega, by go_num, below_step HdW.out (by assumption)⟩
            case measure => simp [intOf]; omega
          · have HlE := Lib.hid (below_step HlD.out hB)
            go_wp2_with fail
            go_roundw
            case rel => exact ⟨j + 1, by omega, by go_num, HlE.out⟩
            case measure => simp [intOf]; omega
        · have HB7 := Lib.hid (below_step HB6.out hB)
          have p1 : ∀ w', Below wr.heap.size wr w' → w'.cell? ⟨b5, o5, none⟩ = some (.int .u32 x0) := fun w' h => r3 w' (below_step hB h)
          have p2 : ∀ w', Below wr.heap.size wr w' → w'.cell? ⟨b5, o5 + 1, none⟩ = some (.int .i64 y0) := fun w' h => r4 w' (below_step hB h)
          have hgc := HLG4.out.len
          have hk2 : (k : Int) ≤ (cg : Int) := by omega
          have hk3 : k ≤ cg := by omega
          have hcg : cg ≤ 9223372036854775807 := by have := hgc.2.2; unfold maxLen at this; omega
          clear r3 r4 hB hgc HL6 HF6 HB6
          obtain ⟨wm, rfl⟩ : ∃ wm : World, wm = wr := ⟨_, rfl⟩
          go_wp2_with fail
          go_loopw [146] (fun i wr => ∃ j : Nat, j ≤ k ∧ i = .int .i64 j ∧ Below wm.heap.size wm wr) (fun i _ => k - (intOf i).toNat)
          case atStart => exact ⟨0, Nat.zero_le _, rfl, Below.refl _ _⟩
          case round =>
          obtain ⟨j, hj, rfl, hB⟩ := hrel
          by_cases hltj : j < k
          · obtain ⟨wj, rfl⟩ : ∃ wj : World, wj = wr := ⟨_, rfl⟩
            obtain ⟨h, Ahj, chj, bh, oh, hxh, heh, hFh, lh, e1⟩ := set_at HLG4.out (k := j) (by omega)
            simp only [Option.some.injEq, Addr.mk.injEq] at heh
            obtain ⟨rfl, rfl, _⟩ := heh
            have hcl := ((below_step HB7.out hB).cell (p := ⟨bg, og + j, none⟩) (HFr.out bg hFh)).trans e1
            have hhp := Hpart.out.each h (List.mem_of_getElem? hxh)
            obtain ⟨⟨x7, y7⟩, hx7⟩ : ∃ q, h[0]? = some q := ⟨_, List.getElem?_eq_getElem (List.length_pos_iff.2 hhp.1)⟩
            have hun : Hid (unlikeB bys ⟨x7, y7⟩ ⟨x0, y0⟩ = true) := Lib.hid (Hpart.out.apart k j g h (by omega) Hgx.out hxh ⟨x0, y0⟩ (List.mem_of_getElem? Hx0.out) ⟨x7, y7⟩ (List.mem_of_getElem? hx7))
            have hh30 : h.length ≤ 30 := by have h1 := sumL_snoc hxh; have h2 := sumL_le gs (j + 1); have := hsum.out; have := Hna.out; omega
            have hj0 : (0 : Int) ≤ (j : Int) := by omega
            have hj1 : (j : Int) < (k : Int) := by omega
            have hhl2 : 0 < h.length := List.length_pos_iff.2 hhp.1
            have hba : Below wm.heap.size wm (wj.alloc (.cells #[.slice Ahj h.length chj] 26)) := hB.alloc hB.size _
            have hb3 := below_step HB7.out hba
            have Hlist := Lib.hid (set_ListF (wj.alloc (.cells #[.slice Ahj h.length chj] 26)) F4 Ahj h.length chj h ((listR_ok pfxR_ok).below lh hb3 HFr.out) (HFr.out.below hb3) (by omega))
            have Hba := Lib.hid hba
            have Hx7 := Lib.hid hx7
            clear hxh hhp hx7 lh e1 hba hb3 hB
            go_wp2_with fail
            refine Hlist.out.mono ?_
            rintro e w6 ⟨A7, c7, F7, rfl, hl7, hF7, hb7⟩
            obtain ⟨b7, o7, rfl, hFb7, hf7, e7, e8⟩ := list_head hl7 Hx7.out
            have hq7 := hF7 b7 hFb7
            have HB8 := Lib.hid ((below_step Hba.out hb7).alloc (below_step Hba.out hb7).size (.cells #[.int .u32 x7, .int .i64 y7] 35))
            have HNQ := Lib.hid (Blk.new w6 35 #[.int .u32 x7, .int .i64 y7])
            clear hl7 hF7 hb7 Hlist Hba hcl
            go_upto_region 40 with fail
            refine wp_gen (fun W => Below wm.heap.size wm W ∧ Blk W w6.heap.size 35 #[.int .u32 x7, .int .i64 y7]) ⟨HB8.out, HNQ.out⟩ ?_
            rintro W0 ⟨hmW, hkQ⟩
            have HmW := Lib.hid hmW
            have HW3 := Lib.hid (below_step HB7.out hmW)
            have HkQ := Lib.hid hkQ
            clear HB8 HNQ hmW hkQ e7 e8
            go_wp2_with fail
            go_loopw [24, 156] (fun u i wr => ∃ t : Nat, t ≤ m1 ∧ i = .int .i64 t ∧ u = .bool (unlikeB (bys.take t) ⟨x7, y7⟩ ⟨x0, y0⟩) ∧ Below W0.heap.size W0 wr) (fun _ i _ => m1 - (intOf i).toNat)
            case atStart => exact ⟨0, Nat.zero_le _, rfl, rfl, Below.refl _ _⟩
            case round =>
            obtain ⟨t, ht, rfl, rfl, hB⟩ := hrel
            by_cases hltt : t < m1
            · obtain ⟨s, As, cs, bs, os, hxs, rfl, hFs, ls, e1⟩ := set_at HLS4.out hltt
              have hcl := ((below_step HW3.out hB).cell (p := ⟨bs, os + t, none⟩) (HFr.out bs hFs)).trans e1
              have hsb : s ∈ bys := List.mem_of_getElem? hxs
              have ht0 : (0 : Int) ≤ (t : Int) := by omega
              have ht1 : (t : Int) < (m1 : Int) := by omega
              have hsn := unlikeB_snoc ⟨x7, y7⟩ ⟨x0, y0⟩ hxs
              obtain ⟨u, hu⟩ : ∃ u, u = unlikeB (bys.take t) ⟨x7, y7⟩ ⟨x0, y0⟩ := ⟨_, rfl⟩
              obtain ⟨v1, hv1⟩ : ∃ v, v = memP s ⟨x7, y7⟩ := ⟨_, rfl⟩
              obtain ⟨v2, hv2⟩ : ∃ v, v = memP s ⟨x0, y0⟩ := ⟨_, rfl⟩
              have H1 := Lib.hid (fun w' (h : Below w3.heap.size w3 w') => Hset.out s hsb As cs ls x7 y7 hf7 w' h)
              have H2 := Lib.hid (fun w' (h : Below w3.heap.size w3 w') => Hset.out s hsb As cs ls x0 y0 hf0 w' h)
              rw [← hv1] at H1
              rw [← hv2] at H2
              rw [← hu, ← hv1, ← hv2] at hsn
              rw [← hu]
              have HSN := Lib.hid hsn
              have hba : Below W0.heap.size W0 (wr.alloc (.cells #[.slice As s.length cs] 26)) := hB.alloc hB.size _
              have Hba := Lib.hid hba
              have HNW := Lib.hid (Blk.new wr 26 #[.slice As s.length cs])
              clear hu hxs hsb ls e1 hba hv1 hv2 hsn
              go_upto_region 44 with fail
              refine wp_gen (fun W => Below W0.heap.size W0 W ∧ Blk W wr.heap.size 26 #[.slice As s.length cs]) ⟨Hba.out, HNW.out⟩ ?_
              rintro W ⟨hdW, hkW⟩
              have HdW := Lib.hid hdW
              have HV3 := Lib.hid (below_step HW3.out hdW)
              have q1 : ∀ w', Below W.heap.size W w' → w'.cell? ⟨b5, o5, none⟩ = some (.int .u32 x0) := fun w' h => p1 w' (below_step (below_step HmW.out HdW.out) h)
              have q2 : ∀ w', Below W.heap.size W w' → w'.cell? ⟨b5, o5 + 1, none⟩ = some (.int .i64 y0) := fun w' h => p2 w' (below_step (below_step HmW.out HdW.out) h)
              have q3 : ∀ w', Below W.heap.size W w' → w'.cell? ⟨w6.heap.size, 0, none⟩ = some (.int .u32 x7) := fun w' h => (HkQ.out.below (below_step HdW.out h) HkQ.out.lt).cell 0
              have q4 : ∀ w', Below W.heap.size W w' → w'.cell? ⟨w6.heap.size, 1, none⟩ = some (.int .i64 y7) := fun w' h => (HkQ.out.below (below_step HdW.out h) HkQ.out.lt).cell 1
              have q5 : ∀ w', Below W.heap.size W w' → w'.cell? ⟨wr.heap.size, 0, none⟩ = some (.slice As s.length cs) := fun w' h => (hkW.below h hkW.lt).cell 0
              have C1 := Lib.hid (fun w' (h : Below W.heap.size W w') => H1.out w' (below_step HV3.out h))
              have C2 := Lib.hid (fun w' (h : Below W.heap.size W w') => H2.out w' (below_step HV3.out h))
              have hWW : Below W.heap.size W W := Below.refl _ _
              clear hdW hkW hcl p1 p2 hB Hba HNW H1 H2
              cases u
              · cases v1 <;> cases v2
                all_goals
                  refine wp_region_held_drew (S := (fun w' => Below W.heap.size W w')) (by kernel_rfl) ?_ (fun hHeld => ?_)
                  · (try dsimp only); (first | (with_reducible exact below_step (by assumption) hb1') | (repeat' (first | (with_reducible exact Below.refl _ _) | (with_reducible assumption) | (with_reducible exact Below.size (by assumption)) | (with_reducible refine Below.drew ?_))))
                  refine wpAnyH_take (i := 0) (v := ?_) rfl (by kernel_rfl) (by kernel_rfl) (by kernel_rfl) (fun _ _ _ h => h) (Or.inl ⟨by rfl, ?_⟩) (by assumption) ?_
                  rotate_left
                  · (intro w hSw; (try dsimp only at hSw); go_simp; first | done | with_reducible rfl)
                  try simp only [List.getElem_toArray, List.getElem_cons_zero, List.getElem_cons_succ, Act.put, List.setIfInBounds_toArray, List.set_cons_zero, List.set_cons_succ]
                  refine wpAnyH_take (i := 1) (v := ?_) rfl (by kernel_rfl) (by kernel_rfl) (by kernel_rfl) (fun _ _ _ h => h) (Or.inl ⟨by rfl, ?_⟩) (by assumption) ?_
                  rotate_left
                  · (intro w hSw; (try dsimp only at hSw); go_simp; first | done | with_reducible rfl)
                  try simp only [List.getElem_toArray, List.getElem_cons_zero, List.getElem_cons_succ, Act.put, List.setIfInBounds_toArray, List.set_cons_zero, List.set_cons_succ]
                  refine wpAnyH_take (i := 2) (v := ?_) rfl (by kernel_rfl) (by kernel_rfl) (by kernel_rfl) (fun _ _ _ h => h) (Or.inl ⟨by rfl, ?_⟩) (by assumption) ?_
                  rotate_left
                  · (intro w hSw; (try dsimp only at hSw); go_simp; first | done | with_reducible rfl)
                  try simp only [List.getElem_toArray, List.getElem_cons_zero, List.getElem_cons_succ, Act.put, List.setIfInBounds_toArray, List.set_cons_zero, List.set_cons_succ]
                  refine wpAnyH_take (i := 3) (v := ?_) rfl (by kernel_rfl) (by kernel_rfl) (by kernel_rfl) (fun _ _ _ h => h) (Or.inl ⟨by rfl, ?_⟩) (by assumption) ?_
                  rotate_left
                  · (intro w hSw; (try dsimp only at hSw); go_simp; first | done | with_reducible rfl)
                  try simp only [List.getElem_toArray, List.getElem_cons_zero, List.getElem_cons_succ, Act.put, List.setIfInBounds_toArray, List.set_cons_zero, List.set_cons_succ]
                  refine wpAnyH_take (i := 5) (v := ?_) rfl (by kernel_rfl) (by kernel_rfl) (by kernel_rfl) (fun _ _ _ h => h) (Or.inl ⟨by rfl, ?_⟩) (by assumption) ?_
                  rotate_left
                  · (intro w hSw; (try dsimp only at hSw); go_simp; first | done | with_reducible rfl)
                  try simp only [List.getElem_toArray, List.getElem_cons_zero, List.getElem_cons_succ, Act.put, List.setIfInBounds_toArray, List.set_cons_zero, List.set_cons_succ]
                  refine wpAnyH_take (i := 6) (v := ?_) rfl (by kernel_rfl) (by kernel_rfl) (by kernel_rfl) (fun _ _ _ h => h) (Or.inl ⟨by rfl, ?_⟩) (by assumption) ?_
                  rotate_left
                  · (intro w hSw; (try dsimp only at hSw); go_simp; first | done | with_reducible rfl)
                  try simp only [List.getElem_toArray, List.getElem_cons_zero, List.getElem_cons_succ, Act.put, List.setIfInBounds_toArray, List.set_cons_zero, List.set_cons_succ]
                  refine wpAnyH_take (i := 7) (v := ?_) rfl (by kernel_rfl) (by kernel_rfl) (by kernel_rfl) (fun _ _ _ h => h) (Or.inl ⟨by rfl, ?_⟩) (by assumption) ?_
                  rotate_left
                  · (intro w hSw; (try dsimp only at hSw); go_simp; first | done | with_reducible rfl)
                  try simp only [List.getElem_toArray, List.getElem_cons_zero, List.getElem_cons_succ, Act.put, List.setIfInBounds_toArray, List.set_cons_zero, List.set_cons_succ]
                  refine wpAnyH_take (i := 8) (v := ?_) rfl (by kernel_rfl) (by kernel_rfl) (by kernel_rfl) (fun _ _ _ h => h) (Or.inl ⟨by rfl, ?_⟩) (by assumption) ?_
                  rotate_left
                  · (intro w hSw; (try dsimp only at hSw); go_simp; first | done | with_reducible rfl)
                  try simp only [List.getElem_toArray, List.getElem_cons_zero, List.getElem_cons_succ, Act.put, List.setIfInBounds_toArray, List.set_cons_zero, List.set_cons_succ]
                  refine wpAnyH_ready (rs := [4]) (by kernel_rfl) (by simp) ?_
                  refine AllReadyH.cons rfl (fun K hK => ?_) AllReadyH.nil
                  go_simp
                  (go_at_call 14; (with_reducible refine (C1.out _ ?_).mono ?_); assumption; rintro e u1 ⟨rfl, hb1'⟩; have hq : Below W.heap.size W u1 := below_step (by assumption) hb1')
                  go_wp2_with fail
                  refine hK.out _ _ ?_ (fun hHeldN => ?_)
                  · (try dsimp only); (first | (with_reducible exact below_step (by assumption) hb1') | (repeat' (first | (with_reducible exact Below.refl _ _) | (with_reducible assumption) | (with_reducible exact Below.size (by assumption)) | (with_reducible refine Below.drew ?_))))
                  clear hK K hHeld
                  try clear hb1' hq
                  have hHeld := hHeldN
                  clear hHeldN
                  try simp only [List.getElem_toArray, List.getElem_cons_zero, List.getElem_cons_succ, Act.put, List.setIfInBounds_toArray, List.set_cons_zero, List.set_cons_succ]
                  refine wpAnyH_ready (rs := [9]) (by kernel_rfl) (by simp) ?_
                  refine AllReadyH.cons rfl (fun K hK => ?_) AllReadyH.nil
                  go_simp
                  (go_at_call 14; (with_reducible refine (C2.out _ ?_).mono ?_); assumption; rintro e u1 ⟨rfl, hb1'⟩; have hq : Below W.heap.size W u1 := below_step (by assumption) hb1')
                  go_wp2_with fail
                  refine hK.out _ _ ?_ (fun hHeldN => ?_)
                  · (try dsimp only); (first | (with_reducible exact below_step (by assumption) hb1') | (repeat' (first | (with_reducible exact Below.refl _ _) | (with_reducible assumption) | (with_reducible exact Below.size (by assumption)) | (with_reducible refine Below.drew ?_))))
                  clear hK K hHeld
                  try clear hb1' hq
                  have hHeld := hHeldN
                  clear hHeldN
                  try simp only [List.getElem_toArray, List.getElem_cons_zero, List.getElem_cons_succ, Act.put, List.setIfInBounds_toArray, List.set_cons_zero, List.set_cons_succ]
                  refine wpAnyH_take (i := 10) (v := ?_) rfl (by kernel_rfl) (by kernel_rfl) (by kernel_rfl) (fun _ _ _ h => h) (Or.inl ⟨by rfl, ?_⟩) (by assumption) ?_
                  rotate_left
                  · (intro w hSw; (try dsimp only at hSw); go_simp; first | done | with_reducible rfl)
                  try simp only [List.getElem_toArray, List.getElem_cons_zero, List.getElem_cons_succ, Act.put, List.setIfInBounds_toArray, List.set_cons_zero, List.set_cons_succ]
                  refine wpAnyH_take (i := 11) (v := ?_) rfl (by kernel_rfl) (by kernel_rfl) (by kernel_rfl) (fun _ _ _ h => h) (Or.inl ⟨by rfl, ?_⟩) (by assumption) ?_
                  rotate_left
                  · (intro w hSw; (try dsimp only at hSw); go_simp; first | done | with_reducible rfl)
                  try simp only [List.getElem_toArray, List.getElem_cons_zero, List.getElem_cons_succ, Act.put, List.setIfInBounds_toArray, List.set_cons_zero, List.set_cons_succ]
                  refine wpAnyH_take (i := 12) (v := ?_) rfl (by kernel_rfl) (by kernel_rfl) (by kernel_rfl) (fun _ _ _ h => h) (Or.inl ⟨by rfl, ?_⟩) (by assumption) ?_
                  rotate_left
                  · (intro w hSw; (try dsimp only at hSw); go_simp; first | done | with_reducible rfl)
                  try simp only [List.getElem_toArray, List.getElem_cons_zero, List.getElem_cons_succ, Act.put, List.setIfInBounds_toArray, List.set_cons_zero, List.set_cons_succ]
                  refine wpAnyH_done (by kernel_rfl) ?_ _
                  go_wp2_with fail
                  go_roundw
                  case rel => exact ⟨t + 1, by omega, by go_num, by rw [HSN.out]; rfl, below_step HdW.out (by assumption)⟩
                  case measure => simp [intOf]; omega
              · refine wp_region_held_drew (S := (fun w' => Below W.heap.size W w')) (by kernel_rfl) ?_ (fun hHeld => ?_)
                · (try dsimp only); (first | (with_reducible exact below_step (by assumption) hb1') | (repeat' (first | (with_reducible exact Below.refl _ _) | (with_reducible assumption) | (with_reducible exact Below.size (by assumption)) | (with_reducible refine Below.drew ?_))))
                refine wpAnyH_take (i := 0) (v := ?_) rfl (by kernel_rfl) (by kernel_rfl) (by kernel_rfl) (fun _ _ _ h => h) (Or.inl ⟨by rfl, ?_⟩) (by assumption) ?_
                rotate_left
                · (intro w hSw; (try dsimp only at hSw); go_simp; first | done | with_reducible rfl)
                try simp only [List.getElem_toArray, List.getElem_cons_zero, List.getElem_cons_succ, Act.put, List.setIfInBounds_toArray, List.set_cons_zero, List.set_cons_succ]
                refine wpAnyH_take (i := 1) (v := ?_) rfl (by kernel_rfl) (by kernel_rfl) (by kernel_rfl) (fun _ _ _ h => h) (Or.inl ⟨by rfl, ?_⟩) (by assumption) ?_
                rotate_left
                · (intro w hSw; (try dsimp only at hSw); go_simp; first | done | with_reducible rfl)
                try simp only [List.getElem_toArray, List.getElem_cons_zero, List.getElem_cons_succ, Act.put, List.setIfInBounds_toArray, List.set_cons_zero, List.set_cons_succ]
                refine wpAnyH_take (i := 2) (v := undef) rfl (by kernel_rfl) (by kernel_rfl) (by kernel_rfl) (fun _ _ _ h => h) (Or.inr ⟨by rfl, rfl⟩) (by assumption) ?_
                try simp only [List.getElem_toArray, List.getElem_cons_zero, List.getElem_cons_succ, Act.put, List.setIfInBounds_toArray, List.set_cons_zero, List.set_cons_succ]
                refine wpAnyH_take (i := 3) (v := undef) rfl (by kernel_rfl) (by kernel_rfl) (by kernel_rfl) (fun _ _ _ h => h) (Or.inr ⟨by rfl, rfl⟩) (by assumption) ?_
                try simp only [List.getElem_toArray, List.getElem_cons_zero, List.getElem_cons_succ, Act.put, List.setIfInBounds_toArray, List.set_cons_zero, List.set_cons_succ]
                refine wpAnyH_take (i := 4) (v := undef) rfl (by kernel_rfl) (by kernel_rfl) (by kernel_rfl) (fun _ _ _ h => h) (Or.inr ⟨by rfl, rfl⟩) (by assumption) ?_
                try simp only [List.getElem_toArray, List.getElem_cons_zero, List.getElem_cons_succ, Act.put, List.setIfInBounds_toArray, List.set_cons_zero, List.set_cons_succ]
                refine wpAnyH_take (i := 5) (v := undef) rfl (by kernel_rfl) (by kernel_rfl) (by kernel_rfl) (fun _ _ _ h => h) (Or.inr ⟨by rfl, rfl⟩) (by assumption) ?_
                try simp only [List.getElem_toArray, List.getElem_cons_zero, List.getElem_cons_succ, Act.put, List.setIfInBounds_toArray, List.set_cons_zero, List.set_cons_succ]
                refine wpAnyH_take (i := 6) (v := undef) rfl (by kernel_rfl) (by kernel_rfl) (by kernel_rfl) (fun _ _ _ h => h) (Or.inr ⟨by rfl, rfl⟩) (by assumption) ?_
                try simp only [List.getElem_toArray, List.getElem_cons_zero, List.getElem_cons_succ, Act.put, List.setIfInBounds_toArray, List.set_cons_zero, List.set_cons_succ]
                refine wpAnyH_take (i := 7) (v := undef) rfl (by kernel_rfl) (by kernel_rfl) (by kernel_rfl) (fun _ _ _ h => h) (Or.inr ⟨by rfl, rfl⟩) (by assumption) ?_
                try simp only [List.getElem_toArray, List.getElem_cons_zero, List.getElem_cons_succ, Act.put, List.setIfInBounds_toArray, List.set_cons_zero, List.set_cons_succ]
                refine wpAnyH_take (i := 8) (v := undef) rfl (by kernel_rfl) (by kernel_rfl) (by kernel_rfl) (fun _ _ _ h => h) (Or.inr ⟨by rfl, rfl⟩) (by assumption) ?_
                try simp only [List.getElem_toArray, List.getElem_cons_zero, List.getElem_cons_succ, Act.put, List.setIfInBounds_toArray, List.set_cons_zero, List.set_cons_succ]
                refine wpAnyH_take (i := 9) (v := undef) rfl (by kernel_rfl) (by kernel_rfl) (by kernel_rfl) (fun _ _ _ h => h) (Or.inr ⟨by rfl, rfl⟩) (by assumption) ?_
                try simp only [List.getElem_toArray, List.getElem_cons_zero, List.getElem_cons_succ, Act.put, List.setIfInBounds_toArray, List.set_cons_zero, List.set_cons_succ]
                refine wpAnyH_take (i := 10) (v := undef) rfl (by kernel_rfl) (by kernel_rfl) (by kernel_rfl) (fun _ _ _ h => h) (Or.inr ⟨by rfl, rfl⟩) (by assumption) ?_
                try simp only [List.getElem_toArray, List.getElem_cons_zero, List.getElem_cons_succ, Act.put, List.setIfInBounds_toArray, List.set_cons_zero, List.set_cons_succ]
                refine wpAnyH_take (i := 11) (v := ?_) rfl (by kernel_rfl) (by kernel_rfl) (by kernel_rfl) (fun _ _ _ h => h) (Or.inl ⟨by rfl, ?_⟩) (by assumption) ?_
                rotate_left
                · (intro w hSw; (try dsimp only at hSw); go_simp; first | done | with_reducible rfl)
                try simp only [List.getElem_toArray, List.getElem_cons_zero, List.getElem_cons_succ, Act.put, List.setIfInBounds_toArray, List.set_cons_zero, List.set_cons_succ]
                refine wpAnyH_take (i := 12) (v := ?_) rfl (by kernel_rfl) (by kernel_rfl) (by kernel_rfl) (fun _ _ _ h => h) (Or.inl ⟨by rfl, ?_⟩) (by assumption) ?_
                rotate_left
                · (intro w hSw; (try dsimp only at hSw); go_simp; first | done | with_reducible rfl)
                try simp only [List.getElem_toArray, List.getElem_cons_zero, List.getElem_cons_succ, Act.put, List.setIfInBounds_toArray, List.set_cons_zero, List.set_cons_succ]
                refine wpAnyH_done (by kernel_rfl) ?_ _
                go_wp2_with fail
                go_roundw
                case rel => exact ⟨t + 1, by omega, by go_num, by rw [HSN.out]; rfl, below_step HdW.out (by assumption)⟩
                case measure => simp [intOf]; omega
            · have HmE := Lib.hid (below_step HmW.out hB)
              have hut : unlikeB (bys.take t) ⟨x7, y7⟩ ⟨x0, y0⟩ = true := by rw [List.take_of_length_le (by have := HM1.out; omega)]; exact hun.out
              rw [hut]
              clear hut
              go_wp2_with fail
              go_roundw
              case rel => exact ⟨j + 1, by omega, by go_num, HmE.out⟩
              case measure => simp [intOf]; omega
          · have HB9 := Lib.hid (below_step HB7.out hB)
            go_wp2_with fail
            go_roundw
            case rel => exact ⟨k + 1, by omega, by go_num, by rw [Hsn.out]; go_num, HB9.out⟩
            case measure => simp [intOf]; omega
end Go.Proofs.Ythiodgnklfbmjaa
