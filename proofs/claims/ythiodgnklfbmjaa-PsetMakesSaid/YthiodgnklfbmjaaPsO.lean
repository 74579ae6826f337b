/- Prefix.Half, Set.Covers. -/
import Derived.Test.YthiodgnklfbmjaaPsN
namespace Go.Proofs.Ythiodgnklfbmjaa
open Go.RowKit
set_option linter.unusedVariables false

def hiA (a l : Int) : Int := bits .or .u32 a (2 ^ (31 - l).toNat % 4294967296)
def halfE (p : Pfx) : Int := if p.good = true ∧ p.len ≠ 32 then 0 else 1
def halfP (p : Pfx) (lo : Bool) : Pfx := if p.good = true ∧ p.len ≠ 32 then ⟨if lo then p.addr else hiA p.addr p.len, p.len + 1⟩ else ⟨0, 0⟩
theorem Blk.set2 {w : World} {g : Nat} {t : TypeId} {x y u v : Value} (h : Blk w g t #[x, y]) : Blk ((w.setCell ⟨g, 0, none⟩ u).setCell ⟨g, 1, none⟩ v) g t #[u, v] :=
  (h.set_ (cs := [x, y]) 0 u).set_ (cs := [u, y]) 1 v
theorem below_set2 {w w' : World} {g : Nat} {x y : Value} {i j : Nat} (h : Below w.heap.size w w') (hg : w.heap.size ≤ g) : Below w.heap.size w ((w'.setCell ⟨g, i, none⟩ x).setCell ⟨g, j, none⟩ y) :=
  below_grown (below_grown h (grownBy_setCell _ _ _ _) hg) (grownBy_setCell _ _ _ _) hg
set_option maxRecDepth 100000 in
set_option maxHeartbeats 2000000 in
theorem ip_Half (a l t : Int) (w : World) (hf : (Pfx.mk a l).Fits) :
    Calls Try.prog 26 #[.agg #[.int .u32 a, .int .i64 l], .int .i64 t] w fun e w' => e = .returned (.tuple #[.agg (halfP ⟨a, l⟩ (t == 0)).vals, .int .i64 (halfE ⟨a, l⟩)]) ∧ Below w.heap.size w w' := by
  obtain ⟨g, hg⟩ : ∃ g, g = (Pfx.mk a l).good := ⟨_, rfl⟩
  have hl := hf.len
  have hc := fun W => ip_Check ⟨a, l⟩ W hf
  rw [← hg] at hc
  have Hc := Lib.hid hc
  have hgl : Hid (g = true → 0 ≤ l ∧ l ≤ 32) := Lib.hid fun h => by
    rw [hg] at h
    simp [Pfx.good] at h
    omega
  have Hg := Lib.hid hg
  have hW0 : Below w.heap.size w ((w.alloc (.cells #[.int .u32 a, .int .i64 l] 35)).alloc (.cells #[.int .u32 0, .int .i64 0] 35)) := ((Below.refl _ _).alloc (Nat.le_refl _) _).alloc (by simp) _
  have HW0 := Lib.hid hW0
  have hk0 : Blk ((w.alloc (.cells #[.int .u32 a, .int .i64 l] 35)).alloc (.cells #[.int .u32 0, .int .i64 0] 35)) w.heap.size 35 #[.int .u32 a, .int .i64 l] := (Blk.new w _ _).below ((Below.refl _ _).alloc (Nat.le_refl _) _) (by simp)
  have hk1 : Blk ((w.alloc (.cells #[.int .u32 a, .int .i64 l] 35)).alloc (.cells #[.int .u32 0, .int .i64 0] 35)) (w.heap.size + 1) 35 #[.int .u32 0, .int .i64 0] := by
    have := Blk.new (w.alloc (.cells #[.int .u32 a, .int .i64 l] 35)) 35 #[.int .u32 0, .int .i64 0]
    simpa using this
  have HK0 := Lib.hid hk0
  have HK1 := Lib.hid hk1
  clear hc hg hW0 hk0 hk1
  go_enter Try.func26, Try.ntmps26
  go_upto_region 1 with fail
  refine wp_gen (fun W => Below w.heap.size w W ∧ Blk W w.heap.size 35 #[.int .u32 a, .int .i64 l] ∧ Blk W (w.heap.size + 1) 35 #[.int .u32 0, .int .i64 0]) ⟨HW0.out, HK0.out, HK1.out⟩ ?_
  rintro W ⟨hW, k1, k2⟩
  have HW := Lib.hid hW
  have K1 := Lib.hid k1
  have K2 := Lib.hid k2
  have x0 := k1.cell 0
  have x1 := k1.cell 1
  clear hW k1 k2
  go_wp2_with fail
  refine (Hc.out _).mono ?_
  rintro e w1 ⟨rfl, hb1⟩
  have HB1 := Lib.hid (below_step HW.out hb1)
  replace K1 := Lib.hid (K1.out.below hb1 K1.out.lt)
  replace K2 := Lib.hid (K2.out.below hb1 K2.out.lt)
  clear hb1 x0 x1
  have x0 := K1.out.cell 0
  have x1 := K1.out.cell 1
  have y0 := K2.out.cell 0
  have y1 := K2.out.cell 1
  have f0 := K2.out.free 0
  have f1 := K2.out.free 1
  have HZ : ∀ u v, Hid (Blk ((w1.setCell ⟨w.heap.size + 1, 0, none⟩ u).setCell ⟨w.heap.size + 1, 1, none⟩ v) (w.heap.size + 1) 35 #[u, v] ∧ Below w.heap.size w ((w1.setCell ⟨w.heap.size + 1, 0, none⟩ u).setCell ⟨w.heap.size + 1, 1, none⟩ v)) := fun u v => Lib.hid ⟨K2.out.set2, below_set2 HB1.out (by omega)⟩
  have HZ' := Lib.hid HZ
  clear HZ
  cases g
  · have HE : Hid (halfE ⟨a, l⟩ = 1) := Lib.hid (by unfold halfE; rw [← Hg.out]; simp)
    have HP : Hid (halfP ⟨a, l⟩ (t == 0) = ⟨0, 0⟩) := Lib.hid (by unfold halfP; rw [← Hg.out]; simp)
    go_wp2_with fail
    refine bodyPost_ret (results_cell_row_tmp rfl _ _ (w.heap.size + 1) 35 _ (0, 0) _ rfl (HZ'.out _ _).out.1.heap Try.underlying35 rfl rfl) rfl ?_
    exact ⟨by rw [HE.out, HP.out]; rfl, (HZ'.out _ _).out.2⟩
  · have hl0 : 0 ≤ l := (hgl.out rfl).1
    have hl1 : l ≤ 32 := (hgl.out rfl).2
    by_cases h32 : l = 32
    · have HE : Hid (halfE ⟨a, l⟩ = 1) := Lib.hid (by unfold halfE; simp [h32])
      have HP : Hid (halfP ⟨a, l⟩ (t == 0) = ⟨0, 0⟩) := Lib.hid (by unfold halfP; simp [h32])
      subst h32
      go_wp2_with fail
      refine bodyPost_ret (results_cell_row_tmp rfl _ _ (w.heap.size + 1) 35 _ (0, 0) _ rfl (HZ'.out _ _).out.1.heap Try.underlying35 rfl rfl) rfl ?_
      exact ⟨by rw [HE.out, HP.out]; rfl, (HZ'.out _ _).out.2⟩
    · have hq : (l == 32) = false := by simpa using h32
      have HE : Hid (halfE ⟨a, l⟩ = 0) := Lib.hid (by unfold halfE; rw [← Hg.out]; simp [h32])
      have ew : IntKind.i64.wrap (l + 1) = l + 1 := by rw [IntKind.wrap_i64]; omega
      have ew2 : IntKind.i64.wrap (31 - l) = 31 - l := by rw [IntKind.wrap_i64]; omega
      have ew3 : 0 ≤ 31 - l := by omega
      cases ht : (t == 0)
      · have HP : Hid (halfP ⟨a, l⟩ (t == 0) = ⟨hiA a l, l + 1⟩) := Lib.hid (by unfold halfP; rw [← Hg.out, ht]; simp [h32])
        go_wp2_with fail
        go_region
        all_goals (go_wp2_with fail)
        refine bodyPost_ret (results_cell_row_tmp rfl _ _ (w.heap.size + 1) 35 _ (0, 0) _ rfl (HZ'.out _ _).out.1.drew.heap Try.underlying35 rfl rfl) rfl ?_
        exact ⟨by rw [HE.out, HP.out]; rfl, (HZ'.out _ _).out.2.drew⟩
      · have HP : Hid (halfP ⟨a, l⟩ (t == 0) = ⟨a, l + 1⟩) := Lib.hid (by unfold halfP; rw [← Hg.out, ht]; simp [h32])
        go_wp2_with fail
        refine bodyPost_ret (results_cell_row_tmp rfl _ _ (w.heap.size + 1) 35 _ (0, 0) _ rfl (HZ'.out _ _).out.1.heap Try.underlying35 rfl rfl) rfl ?_
        exact ⟨by rw [HE.out, HP.out]; rfl, (HZ'.out _ _).out.2⟩

def coversP (xs : List Pfx) (x : Int) : Bool := xs.any fun p => hasP p x
theorem coversP_snoc {xs : List Pfx} {k : Nat} {p : Pfx} (x : Int) (h : xs[k]? = some p) : coversP (xs.take (k + 1)) x = (coversP (xs.take k) x || hasP p x) := by
  unfold coversP
  rw [List.take_add_one, h, List.any_append]
  simp
set_option maxHeartbeats 1000000 in
theorem set_Covers1 (a l x : Int) (g : Nat) (w : World) (hf : (Pfx.mk a l).Fits) (hx : 0 ≤ x ∧ x ≤ 4294967295) (hg : Blk w g 33 #[.int .u32 x]) :
    Calls Try.prog 40 #[.agg #[.int .u32 a, .int .i64 l], .pointer (some ⟨g, 0, none⟩)] w fun e w' => e = .returned (.bool (hasP ⟨a, l⟩ x)) ∧ Below w.heap.size w w' := by
  have HB : Hid (Below w.heap.size w (w.alloc (.cells #[.int .u32 a, .int .i64 l] 35))) := Lib.hid ((Below.refl _ _).alloc (Nat.le_refl _) _)
  have hgl := hg.lt
  have x1 := (hg.below HB.out hg.lt).cell 0
  clear hg
  go_enter Try.func40, Try.ntmps40
  go_wp2_with fail
  refine (ip_Has a l x _ hf hx).mono ?_
  rintro e w1 ⟨rfl, hb1⟩
  go_wp2_with fail
  go_ret
  exact ⟨rfl, below_step HB.out hb1⟩
set_option maxHeartbeats 2000000 in
theorem pfx_Index (w : World) (F : Nat → Prop) (A : Option Addr) (n c g : Nat) (xs : List Pfx) (x : Int) (hl : listR 2 pfxR w F [.slice A n c] xs) (hF : InF F w) (hx : 0 ≤ x ∧ x ≤ 4294967295) (hg : Blk w g 33 #[.int .u32 x]) :
    Calls Try.prog 50 #[.slice A n c, .func (.func 40) #[] #[.pointer (some ⟨g, 0, none⟩)]] w fun e w' => ∃ i : Int, e = .returned (.int .i64 i) ∧ Hid (decide (i ≥ 0) = coversP xs x) ∧ Below w.heap.size w w' := by
  have hn63 : n ≤ 9223372036854775807 := by have := hl.len; unfold maxLen at this; omega
  have HN := Lib.hid hl.len.1
  have Hl := Lib.hid hl
  have Hg := Lib.hid hg
  clear hl hg
  go_enter Try.func50, Try.ntmps50
  go_wp2_with fail
  go_loopw [8] (fun i wr => ∃ k : Nat, k ≤ n ∧ i = .int .i64 k ∧ Hid (coversP (xs.take k) x = false) ∧ Below w.heap.size w wr) (fun i _ => n - (intOf i).toNat)
  case atStart => exact ⟨0, Nat.zero_le _, rfl, Lib.hid rfl, Below.refl _ _⟩
  case round =>
    obtain ⟨k, hk, rfl, HT, hB⟩ := hrel
    by_cases hlt : k < n
    · obtain ⟨a, l, b, off, hx1, rfl, hFb, hf, c1, c2⟩ := pfx_at Hl.out hlt
      have d1 := (hB.cell (p := ⟨b, off + k * 2, none⟩) (hF b hFb)).trans c1
      have d2 := (hB.cell (p := ⟨b, off + k * 2 + 1, none⟩) (hF b hFb)).trans c2
      have hk0 : (0 : Int) ≤ (k : Int) := by omega
      have hk1 : (k : Int) < (n : Int) := by omega
      have Hx := Lib.hid hx1
      have Hf := Lib.hid hf
      have HB := Lib.hid hB
      clear hx1 c1 c2 hf
      obtain ⟨y, hy⟩ : ∃ y, y = hasP ⟨a, l⟩ x := ⟨_, rfl⟩
      have Hy := Lib.hid hy
      have hc := fun W hW => set_Covers1 a l x g W Hf.out hx hW
      rw [← hy] at hc
      have Hc := Lib.hid hc
      clear hy hc hB
      go_wp2_with fail
      refine (Hc.out _ (Hg.out.below HB.out Hg.out.lt)).mono ?_
      rintro e w1 ⟨rfl, hb1⟩
      have HB1 := Lib.hid (below_step HB.out hb1)
      clear hb1
      cases y
      · go_wp2_with fail
        go_roundw
        case rel => exact ⟨k + 1, by omega, by go_num, Lib.hid (by rw [coversP_snoc x Hx.out, HT.out, ← Hy.out]; rfl), HB1.out⟩
        case measure => simp [intOf]; omega
      · go_wp2_with fail
        go_ret
        refine ⟨_, rfl, Lib.hid ?_, HB1.out⟩
        have h1 : coversP xs x = true := List.any_eq_true.2 ⟨_, List.mem_of_getElem? Hx.out, Hy.out.symm⟩
        rw [h1]
        exact decide_eq_true hk0
    · go_wp2_with fail
      go_ret
      refine ⟨_, rfl, Lib.hid ?_, hB⟩
      have h1 := HT.out
      rw [List.take_of_length_le (by have := HN.out; omega)] at h1
      rw [h1]
      rfl
theorem pfx_Contains (w : World) (F : Nat → Prop) (A : Option Addr) (n c g : Nat) (xs : List Pfx) (x : Int) (hl : listR 2 pfxR w F [.slice A n c] xs) (hF : InF F w) (hx : 0 ≤ x ∧ x ≤ 4294967295) (hg : Blk w g 33 #[.int .u32 x]) :
    Calls Try.prog 39 #[.slice A n c, .func (.func 40) #[] #[.pointer (some ⟨g, 0, none⟩)]] w fun e w' => e = .returned (.bool (coversP xs x)) ∧ Below w.heap.size w w' := by
  have Hl := Lib.hid hl
  have Hg := Lib.hid hg
  clear hl hg
  go_enter Try.func39, Try.ntmps39
  go_wp2_with fail
  refine (pfx_Index w F A n c g xs x Hl.out hF hx Hg.out).mono ?_
  rintro e w1 ⟨i, rfl, HI, hb1⟩
  go_wp2_with fail
  go_ret
  exact ⟨ret_bool HI.out, hb1⟩
set_option maxHeartbeats 1000000 in
theorem set_Covers (w : World) (F : Nat → Prop) (A : Option Addr) (n c : Nat) (xs : List Pfx) (x : Int) (hl : listR 2 pfxR w F [.slice A n c] xs) (hF : InF F w) (hx : 0 ≤ x ∧ x ≤ 4294967295) :
    Calls Try.prog 22 #[.agg #[.slice A n c], .int .u32 x] w fun e w' => e = .returned (.bool (coversP xs x)) ∧ Below w.heap.size w w' := by
  have hB : Below w.heap.size w ((w.alloc (.cells #[.slice A n c] 26)).alloc (.cells #[.int .u32 x] 33)) := ((Below.refl _ _).alloc (Nat.le_refl _) _).alloc (by simp) _
  have HB := Lib.hid hB
  have Hl := Lib.hid ((listR_ok pfxR_ok).below hl hB hF)
  have hk : Blk ((w.alloc (.cells #[.slice A n c] 26)).alloc (.cells #[.int .u32 x] 33)) (w.heap.size + 1) 33 #[.int .u32 x] := by
    have := Blk.new (w.alloc (.cells #[.slice A n c] 26)) 33 #[.int .u32 x]
    simpa using this
  have Hk := Lib.hid hk
  clear hl hB hk
  go_enter Try.func22, Try.ntmps22
  go_wp2_with fail
  refine (pfx_Contains _ F A n c (w.heap.size + 1) xs x Hl.out (hF.below HB.out) hx Hk.out).mono ?_
  rintro e w1 ⟨rfl, hb1⟩
  go_wp2_with fail
  go_ret
  exact ⟨rfl, below_step HB.out hb1⟩
end Go.Proofs.Ythiodgnklfbmjaa
