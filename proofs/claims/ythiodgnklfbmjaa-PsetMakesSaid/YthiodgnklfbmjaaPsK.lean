/- carrefourlaw03.make2. -/
import Derived.Test.YthiodgnklfbmjaaPsJ
namespace Go.Proofs.Ythiodgnklfbmjaa
open Go.RowKit
set_option linter.unusedVariables false

theorem filP_yes {xs : List Pfx} {k : Nat} {x : Pfx} (hx : xs[k]? = some x) (h : x.good = true) : (xs.take (k + 1)).filter Pfx.good = (xs.take k).filter Pfx.good ++ [x] := by
  rw [take_snoc hx]; simp [h]
theorem filP_no {xs : List Pfx} {k : Nat} {x : Pfx} (hx : xs[k]? = some x) (h : x.good = false) : (xs.take (k + 1)).filter Pfx.good = (xs.take k).filter Pfx.good := by
  rw [take_snoc hx]; simp [h]
theorem filP_len (xs : List Pfx) (k : Nat) : ((xs.take k).filter Pfx.good).length ≤ k := Nat.le_trans (List.length_filter_le _ _) (by rw [List.length_take]; omega)
theorem results_cells2 {P : Program} {fn : Func} {p q : Tmp} {ty : TypeId} (h : fn.results = #[.cell p ty, .cell q ty]) (tmps : Array Value) (w : World) (g g2 : Nat) (t t2 : TypeId) (cs ds : Array Value) (fr fr2 : Nat × Nat) (d : TypeDesc)
    (hp : tmps.getD p undef = .pointer (some ⟨g, 0, none⟩)) (hq : tmps.getD q undef = .pointer (some ⟨g2, 0, none⟩)) (hg : w.heap[g]? = some (.cells cs t fr)) (hg2 : w.heap[g2]? = some (.cells ds t2 fr2))
    (hu : P.underlying ty = some d) (hd : (match d with | .struct _ | .array _ _ => true | _ => false) = true) (hi : (P.info? ty).map (·.size) = some cs.size) (hi2 : (P.info? ty).map (·.size) = some ds.size) :
    (results fn tmps).run P w = .ok (.tuple #[.agg cs, .agg ds]) w := by
  have hp' : tmps[p]?.getD undef = .pointer (some ⟨g, 0, none⟩) := by simpa using hp
  have hq' : tmps[q]?.getD undef = .pointer (some ⟨g2, 0, none⟩) := by simpa using hq
  simp [results, h, hp', hq', asAddr, run_loadVar_row w g t ty cs fr d hg hu hd hi, run_loadVar_row w g2 t2 ty ds fr2 d hg2 hu hd hi2]
theorem Grew.drew' {w w' : World} {F F' : Nat → Prop} (h : Grew w F w' F') : Grew w F w'.drew F' := ⟨h.below.drew, h.sub, h.fresh, h.lt⟩
/-- what the call has made so far: the two results' cells, the slice that grows; above a border all is its own -/
structure MkR (w wr : World) (F F1 : Nat → Prop) (v : Value) (xs : List Pfx) : Prop where
  grew : Grew w F wr F1
  r1 : Blk wr w.heap.size 26 #[.slice none 0 0]
  r2 : Blk wr (w.heap.size + 1) 26 #[.slice none 0 0]
  own : ownR 35 2 pfxR wr F1 (w.heap.size + 2) v xs
  hi : ∀ b, F1 b → F b ∨ w.heap.size + 2 ≤ b
theorem MkR.step {w wr w' : World} {F F1 : Nat → Prop} {v : Value} {xs : List Pfx} (h : MkR w wr F F1 v xs) (hb : Below wr.heap.size wr w') : MkR w w' F F1 v xs :=
  ⟨h.grew.trans ⟨hb, fun _ h => h, fun _ h => .inl h, h.grew.lt.mono hb.size⟩, h.r1.below hb h.r1.lt, h.r2.below hb h.r2.lt, h.own.below pfxR_ok hb h.grew.lt, h.hi⟩
theorem MkR.push {w X w2 : World} {F F1 : Nat → Prop} {v v2 : Value} {xs ys : List Pfx} (h : MkR w X F F1 v xs) (hv : ownR 35 2 pfxR w2 F1 (w.heap.size + 2) v2 ys) (hg : X.grownBy w2 v.ownBlock) : MkR w w2 F F1 v2 ys := by
  have hne : ∀ g, v.ownBlock = some g → w.heap.size + 2 ≤ g := fun g hg => (h.own.lt g hg).1
  refine ⟨h.grew.grown hg (fun g hg => by have := hne g hg; omega), h.r1.grownO' hg (fun g hg => by have := hne g hg; omega), h.r2.grownO' hg (fun g hg => by have := hne g hg; omega), hv, h.hi⟩

set_option maxRecDepth 100000 in
set_option maxHeartbeats 4000000 in
theorem law_make2 (w : World) (F : Nat → Prop) (A : Option Addr) (n c : Nat) (a : List Pfx) (B : Option Addr) (m d : Nat) (b : List Pfx) (hl : listR 2 pfxR w F [.slice A n c] a) (hu : listR 2 pfxR w F [.slice B m d] b) (hF : InF F w) (hn : n ≤ 1048576) (hm : m ≤ 1048576) :
    Calls Try.prog 10 #[.slice A n c, .slice B m d] w fun e w' => ∃ A' n' c' B' m' d' F', e = .returned (.tuple #[.agg #[.slice A' n' c'], .agg #[.slice B' m' d']]) ∧ Grew w F w' F' ∧ listR 2 pfxR w' F' [.slice A' n' c'] (ofL (a.filter Pfx.good)) ∧ listR 2 pfxR w' F' [.slice B' m' d'] (ofL (b.filter Pfx.good)) := by
  obtain ⟨ip_, hip, hp0, hp1, hp2⟩ := info_parts pfx_info
  have HN := Lib.hid hl.len.1
  have HM := Lib.hid hu.len.1
  have Hl := Lib.hid hl
  have Hu := Lib.hid hu
  have hblk : Blk ((((w.alloc (.cells #[.slice none 0 0] 26)).alloc (.cells #[.slice none 0 0] 26)).alloc (.cells #[] 35)).alloc (.cells #[] 35)) (w.heap.size + 2) 35 #[] := by
    have := (Blk.new ((w.alloc (.cells #[.slice none 0 0] 26)).alloc (.cells #[.slice none 0 0] 26)) 35 #[]).alloc (.cells #[] 35)
    simpa using this
  have hblk2 : Blk ((((w.alloc (.cells #[.slice none 0 0] 26)).alloc (.cells #[.slice none 0 0] 26)).alloc (.cells #[] 35)).alloc (.cells #[] 35)) (w.heap.size + 2 + 1) 35 #[] := by
    have := (Blk.new (((w.alloc (.cells #[.slice none 0 0] 26)).alloc (.cells #[.slice none 0 0] 26)).alloc (.cells #[] 35)) 35 #[])
    simpa using this
  have hw0 : MkR w ((((w.alloc (.cells #[.slice none 0 0] 26)).alloc (.cells #[.slice none 0 0] 26)).alloc (.cells #[] 35)).alloc (.cells #[] 35)) F F (.slice (some ⟨w.heap.size + 2, 0, none⟩) 0 0) [] := by
    refine ⟨((((Grew.refl hF).alloc _).alloc _).alloc _).alloc _, (((Blk.new w _ _).alloc _).alloc _).alloc _, (((Blk.new2 w _ _ _)).alloc _).alloc _, ?_, fun b h => .inl h⟩
    exact own_mkP (T := []) (g := w.heap.size + 2) (Nat.le_refl _) (fun h => by have := hF _ h; omega) hblk rfl (Nat.le_refl _) (by simp [maxLen]) rfl (by simp)
  have Hw0 := Lib.hid (And.intro hw0 hblk2)
  clear hl hu hblk hblk2 hw0
  go_enter Try.func10, Try.ntmps10
  go_wp2_with fail
  refine wp_gen (fun W => MkR w W F F (.slice (some ⟨w.heap.size + 2, 0, none⟩) 0 0) [] ∧ Blk W (w.heap.size + 2 + 1) 35 #[]) Hw0.out ?_
  rintro W ⟨hW, hY⟩
  go_loopw [6, 20] (fun v i wr => ∃ (k : Nat) (A1 : Option Addr) (n1 c1 : Nat), k ≤ n ∧ i = .int .i64 k ∧ v = .slice A1 n1 c1 ∧ Hid (MkR w wr F F (.slice A1 n1 c1) ((a.take k).filter Pfx.good)) ∧ Hid (Blk wr (w.heap.size + 2 + 1) 35 #[] ∧ ∀ g, (Value.slice A1 n1 c1).ownBlock = some g → g ≠ w.heap.size + 2 + 1)) (fun v i _ => n - (intOf i).toNat)
  case atStart => exact ⟨0, some ⟨w.heap.size + 2, 0, none⟩, 0, 0, Nat.zero_le _, rfl, rfl, Lib.hid hW, Lib.hid ⟨hY, fun g hg => by cases hg; show w.heap.size + 2 ≠ _; omega⟩⟩
  case round =>
    obtain ⟨k, A1, n1, c1, hk, rfl, rfl, HR, HY⟩ := hrel
    by_cases hlt : k < n
    · obtain ⟨x, l, b0, off, hx, hA, hFb, hf, d1, d2⟩ := pfx_at Hl.out hlt
      subst hA
      have hB := HR.out.grew.below
      have e1 := (hB.cell (p := ⟨b0, off + k * 2, none⟩) (hF b0 hFb)).trans d1
      have e2 := (hB.cell (p := ⟨b0, off + k * 2 + 1, none⟩) (hF b0 hFb)).trans d2
      have hk0 : (0 : Int) ≤ (k : Int) := by omega
      have hk1 : (k : Int) < (n : Int) := by omega
      obtain ⟨y, hy⟩ : ∃ y, y = (Pfx.mk x l).good := ⟨_, rfl⟩
      have hc := fun W => ip_Check ⟨x, l⟩ W hf
      rw [← hy] at hc
      have Hc := Lib.hid hc
      have Hx := Lib.hid hx
      have Hf := Lib.hid hf
      have Hy := Lib.hid hy
      clear hc hx hf hy d1 d2 hB
      go_wp2_with fail
      refine (Hc.out _).mono ?_
      rintro e w3 ⟨rfl, hb3⟩
      have hb4 : Below wr.heap.size wr w3 := below_step ((Below.refl _ _).alloc (Nat.le_refl _) (.cells #[.int .u32 x, .int .i64 l] 35)) hb3
      have hP : Blk w3 wr.heap.size 35 #[.int .u32 x, .int .i64 l] := (Blk.new _ _ _).below hb3 (by simp)
      have HR3 := Lib.hid (HR.out.step hb4)
      have q1 := hP.cell 0
      have q2 := hP.cell 1
      have q3 : w3.cell? ⟨wr.heap.size, 0, none⟩ = some (.int .u32 x) := q1
      have q4 : w3.cell? ⟨wr.heap.size, 1, none⟩ = some (.int .i64 l) := q2
      have Hb4 := Lib.hid hb4
      clear hb3 hb4 hP q1 q2 e1 e2
      cases y
      · go_wp2_with fail
        go_roundw
        case rel => exact ⟨k + 1, A1, n1, c1, by omega, by go_num, rfl, Lib.hid (by rw [filP_no Hx.out Hy.out.symm]; exact HR3.out), Lib.hid ⟨HY.out.1.below Hb4.out HY.out.1.lt, HY.out.2⟩⟩
        case measure => simp [intOf]; omega
      · have hbl : Below w3.heap.size w3 (w3.alloc (.cells #[.int .u32 x, .int .i64 l] 35)) := (Below.refl _ _).alloc (Nat.le_refl _) _
        have HR4 := Lib.hid (HR3.out.step hbl)
        have Hbl := Lib.hid hbl
        have hnews := Lib.hid (cells_row_new w3 35 [.int .u32 x, .int .i64 l])
        have hnewg : Hid (Groups pfxR (w3.alloc (.cells #[.int .u32 x, .int .i64 l] 35)) F [.int .u32 x, .int .i64 l] [⟨x, l⟩]) := Lib.hid (Groups.single ⟨rfl, Hf.out⟩)
        have hll := filP_len a k
        have h63 : Hid (((a.take k).filter Pfx.good).length + 1 ≤ 9223372036854775807) := by show _ ≤ _; omega
        have h64 : Hid ((((a.take k).filter Pfx.good).length + 1) * 16 ≤ 140737488355328) := by show _ ≤ _; omega
        have hbase : Hid (w.heap.size + 2 ≤ (w3.alloc (.cells #[.int .u32 x, .int .i64 l] 35)).heap.size) := by show _ ≤ _; simp; have := HR3.out.r2.lt; omega
        clear hbl hll
        go_wp2_with (at_builtin; refine wpList_pushB _ rfl (.tmp 27) (.tmp 29) 22 rfl pfxR_ok (w.heap.size + 2) 35 ip_ _ 16 Try.underlying22 hip hp0 hp1 hp2 rfl (by decide) F _ _ rfl HR4.out.own ⟨w3.heap.size, 0, none⟩ 1 1 [.int .u32 x, .int .i64 l] [⟨x, l⟩] rfl rfl hnews.out hnewg.out HR4.out.grew.lt h63.out h64.out hbase.out ?_)
        intro v5 w5 hv5 hg5 hn5
        obtain ⟨A5, c5, rfl⟩ := hv5.form
        have HR5 := Lib.hid (HR4.out.push hv5 hg5)
        have HY5 : Hid (Blk w5 (w.heap.size + 2 + 1) 35 #[] ∧ ∀ g, (Value.slice A5 ((((a.take k).filter Pfx.good) ++ [(⟨x, l⟩ : Pfx)]).length) c5).ownBlock = some g → g ≠ w.heap.size + 2 + 1) := by
          have hy3 := HY.out.1.below Hb4.out HY.out.1.lt
          have hy4 := hy3.below Hbl.out hy3.lt
          refine Lib.hid ⟨hy4.grownO' hg5 fun g' hg' e => HY.out.2 g' hg' e.symm, fun g hg => ?_⟩
          rcases hn5 with h | h
          · exact HY.out.2 g (by rw [← h]; exact hg)
          · rw [h] at hg
            have h8 := Option.some.inj hg
            have h9 := hy4.lt
            have h10 := World.size_alloc w3 (.cells #[.int .u32 x, .int .i64 l] 35)
            omega
        clear hv5 hg5 hn5
        go_wp2_with fail
        go_roundw
        case rel => exact ⟨k + 1, A5, _, c5, by omega, by go_num, rfl, Lib.hid (by rw [filP_yes Hx.out Hy.out.symm]; exact HR5.out), HY5⟩
        case measure => simp [intOf]; omega
    · obtain rfl : k = n := by omega
      rw [HN.out, List.take_length] at HR
      obtain ⟨A1', rfl⟩ : ∃ A1', A1' = A1 := ⟨_, rfl⟩
      obtain ⟨n1', rfl⟩ : ∃ n1', n1' = n1 := ⟨_, rfl⟩
      obtain ⟨c1', rfl⟩ : ∃ c1', c1' = c1 := ⟨_, rfl⟩
      obtain ⟨F2, hF2⟩ : ∃ F2, F2 = fun b => F b ∨ (Value.slice A1' n1' c1').ownBlock = some b := ⟨_, rfl⟩
      have HX2 : Hid (listR 2 pfxR wr F2 [.slice A1' n1' c1'] (a.filter Pfx.good)) := by
        rw [hF2]
        exact Lib.hid (HR.out.own.freeze pfxR_ok)
      have HR2 : Hid (MkR w wr F F2 (.slice (some ⟨w.heap.size + 2 + 1, 0, none⟩) 0 0) []) := by
        rw [hF2]
        refine Lib.hid ⟨HR.out.grew.own HR.out.own (by omega), HR.out.r1, HR.out.r2, own_mkP (T := []) (g := w.heap.size + 2 + 1) (by omega) (fun h => ?_) HY.out.1 rfl (Nat.le_refl _) (by simp [maxLen]) rfl (by simp), fun b hb => ?_⟩
        · rcases h with h | h
          · have := hF _ h; omega
          · exact HY.out.2 _ h rfl
        · rcases hb with h | h
          · exact .inl h
          · exact .inr (HR.out.own.lt b h).1
      clear HR HY hF2
      go_wp2_with fail
      go_loopw [7, 34] (fun v i wr => ∃ (k : Nat) (A1 : Option Addr) (n1 c1 : Nat), k ≤ m ∧ i = .int .i64 k ∧ v = .slice A1 n1 c1 ∧ Hid (MkR w wr F F2 (.slice A1 n1 c1) ((b.take k).filter Pfx.good)) ∧ Hid (listR 2 pfxR wr F2 [.slice A1' n1' c1'] (a.filter Pfx.good))) (fun v i _ => m - (intOf i).toNat)
      case atStart => exact ⟨0, some ⟨w.heap.size + 2 + 1, 0, none⟩, 0, 0, Nat.zero_le _, rfl, rfl, HR2, HX2⟩
      case round =>
        obtain ⟨k, A1, n1, c1, hk, rfl, rfl, HR, HX⟩ := hrel
        by_cases hlt : k < m
        · obtain ⟨x, l, b0, off, hx, hA, hFb, hf, d1, d2⟩ := pfx_at Hu.out hlt
          subst hA
          have hB := HR.out.grew.below
          have e1 := (hB.cell (p := ⟨b0, off + k * 2, none⟩) (hF b0 hFb)).trans d1
          have e2 := (hB.cell (p := ⟨b0, off + k * 2 + 1, none⟩) (hF b0 hFb)).trans d2
          have hk0 : (0 : Int) ≤ (k : Int) := by omega
          have hk1 : (k : Int) < (m : Int) := by omega
          obtain ⟨y, hy⟩ : ∃ y, y = (Pfx.mk x l).good := ⟨_, rfl⟩
          have hc := fun W => ip_Check ⟨x, l⟩ W hf
          rw [← hy] at hc
          have Hc := Lib.hid hc
          have Hx := Lib.hid hx
          have Hf := Lib.hid hf
          have Hy := Lib.hid hy
          clear hc hx hf hy d1 d2 hB
          go_wp2_with fail
          refine (Hc.out _).mono ?_
          rintro e w3 ⟨rfl, hb3⟩
          have hb4 : Below wr.heap.size wr w3 := below_step ((Below.refl _ _).alloc (Nat.le_refl _) (.cells #[.int .u32 x, .int .i64 l] 35)) hb3
          have hP : Blk w3 wr.heap.size 35 #[.int .u32 x, .int .i64 l] := (Blk.new _ _ _).below hb3 (by simp)
          have HR3 := Lib.hid (HR.out.step hb4)
          have q1 := hP.cell 0
          have q2 := hP.cell 1
          have q3 : w3.cell? ⟨wr.heap.size, 0, none⟩ = some (.int .u32 x) := q1
          have q4 : w3.cell? ⟨wr.heap.size, 1, none⟩ = some (.int .i64 l) := q2
          have Hb4 := Lib.hid hb4
          clear hb3 hb4 hP q1 q2 e1 e2
          cases y
          · go_wp2_with fail
            go_roundw
            case rel => exact ⟨k + 1, A1, n1, c1, by omega, by go_num, rfl, Lib.hid (by rw [filP_no Hx.out Hy.out.symm]; exact HR3.out), Lib.hid ((listR_ok pfxR_ok).below HX.out Hb4.out HR.out.grew.lt)⟩
            case measure => simp [intOf]; omega
          · have hbl : Below w3.heap.size w3 (w3.alloc (.cells #[.int .u32 x, .int .i64 l] 35)) := (Below.refl _ _).alloc (Nat.le_refl _) _
            have HR4 := Lib.hid (HR3.out.step hbl)
            have Hbl := Lib.hid hbl
            have hnews := Lib.hid (cells_row_new w3 35 [.int .u32 x, .int .i64 l])
            have hnewg : Hid (Groups pfxR (w3.alloc (.cells #[.int .u32 x, .int .i64 l] 35)) F2 [.int .u32 x, .int .i64 l] [⟨x, l⟩]) := Lib.hid (Groups.single ⟨rfl, Hf.out⟩)
            have hll := filP_len b k
            have h63 : Hid (((b.take k).filter Pfx.good).length + 1 ≤ 9223372036854775807) := by show _ ≤ _; omega
            have h64 : Hid ((((b.take k).filter Pfx.good).length + 1) * 16 ≤ 140737488355328) := by show _ ≤ _; omega
            have hbase : Hid (w.heap.size + 2 ≤ (w3.alloc (.cells #[.int .u32 x, .int .i64 l] 35)).heap.size) := by show _ ≤ _; simp; have := HR3.out.r2.lt; omega
            clear hbl hll
            go_wp2_with (at_builtin; refine wpList_pushB _ rfl (.tmp 41) (.tmp 43) 22 rfl pfxR_ok (w.heap.size + 2) 35 ip_ _ 16 Try.underlying22 hip hp0 hp1 hp2 rfl (by decide) F2 _ _ rfl HR4.out.own ⟨w3.heap.size, 0, none⟩ 1 1 [.int .u32 x, .int .i64 l] [⟨x, l⟩] rfl rfl hnews.out hnewg.out HR4.out.grew.lt h63.out h64.out hbase.out ?_)
            intro v5 w5 hv5 hg5 hn5
            obtain ⟨A5, c5, rfl⟩ := hv5.form
            have HR5 := Lib.hid (HR4.out.push hv5 hg5)
            have HX5 : Hid (listR 2 pfxR w5 F2 [.slice A1' n1' c1'] (a.filter Pfx.good)) := by
              have hx3 := (listR_ok pfxR_ok).below ((listR_ok pfxR_ok).below HX.out Hb4.out HR.out.grew.lt) Hbl.out HR3.out.grew.lt
              refine Lib.hid ((listR_ok pfxR_ok).keep hx3 (fun b hb => hg5.block b (HR4.out.grew.lt b hb) fun e => ?_) fun _ h => h)
              obtain ⟨_, _, _, h3⟩ := HR4.out.own
              exact h3 b e.symm hb
            clear hv5 hg5 hn5
            go_wp2_with fail
            go_roundw
            case rel => exact ⟨k + 1, A5, _, c5, by omega, by go_num, rfl, Lib.hid (by rw [filP_yes Hx.out Hy.out.symm]; exact HR5.out), HX5⟩
            case measure => simp [intOf]; omega
        · obtain rfl : k = m := by omega
          rw [HM.out, List.take_length] at HR
          obtain ⟨F3, hF3⟩ : ∃ F3, F3 = fun b => F2 b ∨ (Value.slice A1 n1 c1).ownBlock = some b := ⟨_, rfl⟩
          have HX3 : Hid (listR 2 pfxR wr F3 [.slice A1' n1' c1'] (a.filter Pfx.good)) := by
            rw [hF3]
            exact Lib.hid ((listR_ok pfxR_ok).keep HX.out (fun _ _ => rfl) fun _ h => .inl h)
          have HY3 : Hid (listR 2 pfxR wr F3 [.slice A1 n1 c1] (b.filter Pfx.good)) := by
            rw [hF3]
            exact Lib.hid (HR.out.own.freeze pfxR_ok)
          have HG3 : Hid (Grew w F wr F3) := by
            rw [hF3]
            exact Lib.hid (HR.out.grew.own HR.out.own (by omega))
          have Hhi : Hid (∀ b, F3 b → F b ∨ w.heap.size + 2 ≤ b) := by
            rw [hF3]
            refine Lib.hid fun b hb => ?_
            rcases hb with h | h
            · exact HR.out.hi b h
            · exact .inr (HR.out.own.lt b h).1
          have Hr1 := Lib.hid HR.out.r1
          have Hr2 := Lib.hid HR.out.r2
          clear HX HR hF3
          go_wp2_with fail
          refine (set_Of wr F3 _ n1' c1' _ HX3.out HG3.out.lt).mono ?_
          rintro e w5 ⟨A5, n5, c5, F5, rfl, hg5, hl5⟩
          have HG5 := Lib.hid (HG3.out.trans hg5)
          have HY5 := Lib.hid ((listR_ok pfxR_ok).grew HY3.out hg5 HG3.out.lt)
          have hb5 : Below w5.heap.size w5 (w5.alloc (.cells #[.slice A5 n5 c5] 26)) := (Below.refl _ _).alloc (Nat.le_refl _) _
          have Hr15 := Lib.hid ((Hr1.out.below hg5.below Hr1.out.lt).below hb5 (Hr1.out.below hg5.below Hr1.out.lt).lt)
          have Hr25 := Lib.hid ((Hr2.out.below hg5.below Hr2.out.lt).below hb5 (Hr2.out.below hg5.below Hr2.out.lt).lt)
          have Hhi5 : Hid (∀ b, F5 b → F b ∨ w.heap.size + 2 ≤ b) := Lib.hid fun b hb => by
            rcases hg5.fresh b hb with h | h
            · exact Hhi.out b h
            · exact .inr (by have := Hr2.out.lt; omega)
          have HG6 := Lib.hid (HG5.out.alloc (.cells #[.slice A5 n5 c5] 26))
          have HY6 := Lib.hid ((listR_ok pfxR_ok).below HY5.out hb5 HG5.out.lt)
          have HX6 := Lib.hid ((listR_ok pfxR_ok).below hl5 hb5 HG5.out.lt)
          have HS6 := Lib.hid (Blk.new w5 26 #[.slice A5 n5 c5])
          have HS3 : Hid (w.heap.size + 1 < w5.heap.size) := by show _ < _; have h1 := Hr2.out.lt; have h2 := hg5.below.size; omega
          clear hg5 hl5 hb5 HY5 HG5
          go_wp2_with fail
          refine (set_Of _ F5 _ n1 c1 _ HY6.out HG6.out.lt).mono ?_
          rintro e w7 ⟨A7, n7, c7, F7, rfl, hg7, hl7⟩
          have HG7 := Lib.hid (HG6.out.trans hg7)
          have HX7 := Lib.hid ((listR_ok pfxR_ok).grew HX6.out hg7 HG6.out.lt)
          have HS7 := Lib.hid (HS6.out.below hg7.below HS6.out.lt)
          have Hr17 := Lib.hid (Hr15.out.below hg7.below Hr15.out.lt)
          have Hr27 := Lib.hid (Hr25.out.below hg7.below Hr25.out.lt)
          have Hhi7 : Hid (∀ b, F7 b → F b ∨ w.heap.size + 2 ≤ b) := Lib.hid fun b hb => by
            rcases hg7.fresh b hb with h | h
            · exact Hhi5.out b h
            · exact .inr (by have := Hr25.out.lt; omega)
          have HL7 := Lib.hid hl7
          clear hg7 hl7
          go_upto_region 17 with fail
          have hb8 : Below w7.heap.size w7 (w7.alloc (.cells #[.slice A7 n7 c7] 26)) := (Below.refl _ _).alloc (Nat.le_refl _) _
          have HF8 := Lib.hid (And.intro ((listR_ok pfxR_ok).below HX7.out hb8 HG7.out.lt) ((listR_ok pfxR_ok).below HL7.out hb8 HG7.out.lt))
          have HG8 := Lib.hid (HG7.out.alloc (.cells #[.slice A7 n7 c7] 26))
          have s1 := HS7.out.lt
          have s2 := Hr25.out.lt
          have s3 := HS3.out
          refine wp_gen (fun W => Grew w F W F7 ∧ listR 2 pfxR W F7 [.slice A5 n5 c5] (ofL (a.filter Pfx.good)) ∧ listR 2 pfxR W F7 [.slice A7 n7 c7] (ofL (b.filter Pfx.good)) ∧ Blk W w5.heap.size 26 #[.slice A5 n5 c5] ∧ Blk W w7.heap.size 26 #[.slice A7 n7 c7] ∧ Blk W w.heap.size 26 #[.slice none 0 0] ∧ Blk W (w.heap.size + 1) 26 #[.slice none 0 0]) ⟨HG8.out, HF8.out.1, HF8.out.2, HS7.out.below hb8 s1, Blk.new _ _ _, Hr17.out.below hb8 Hr17.out.lt, Hr27.out.below hb8 Hr27.out.lt⟩ ?_
          rintro W8 ⟨g8, x8, y8, k5, k7, k1, k2⟩
          have c5' := k5.cell 0
          have c7' := k7.cell 0
          have c1' := k1.cell 0
          have c2' := k2.cell 0
          have f1 := k1.free 0
          have f2 := k2.free 0
          simp only [List.getElem?_toArray, List.getElem?_cons_zero] at c5' c7' c1' c2'
          have n1 : w5.heap.size ≠ w.heap.size := by omega
          have n2 : w5.heap.size ≠ w.heap.size + 1 := by omega
          have n3 : w7.heap.size ≠ w.heap.size := by omega
          have n4 : w7.heap.size ≠ w.heap.size + 1 := by omega
          have HG9 := Lib.hid g8
          have HX9 := Lib.hid x8
          have HY9 := Lib.hid y8
          have HK1 := Lib.hid k1
          have HK2 := Lib.hid k2
          clear g8 x8 y8 k1 k2 k5 k7 s1 s2 s3 hb8
          have HZ : ∀ v u, Blk ((W8.setCell ⟨w.heap.size, 0, none⟩ v).setCell ⟨w.heap.size + 1, 0, none⟩ u).drew w.heap.size 26 #[v] ∧ Blk ((W8.setCell ⟨w.heap.size, 0, none⟩ v).setCell ⟨w.heap.size + 1, 0, none⟩ u).drew (w.heap.size + 1) 26 #[u] ∧ Grew w F ((W8.setCell ⟨w.heap.size, 0, none⟩ v).setCell ⟨w.heap.size + 1, 0, none⟩ u).drew F7 ∧ (∀ b, F7 b → ((W8.setCell ⟨w.heap.size, 0, none⟩ v).setCell ⟨w.heap.size + 1, 0, none⟩ u).drew.heap[b]? = W8.heap[b]?) := fun v u => by
            have ga := grownBy_setCell W8 w.heap.size 0 v
            have gb := grownBy_setCell (W8.setCell ⟨w.heap.size, 0, none⟩ v) (w.heap.size + 1) 0 u
            have b1 : Blk (W8.setCell ⟨w.heap.size, 0, none⟩ v) w.heap.size 26 #[v] := HK1.out.set_ (cs := [_]) 0 v
            have b2 : Blk ((W8.setCell ⟨w.heap.size, 0, none⟩ v).setCell ⟨w.heap.size + 1, 0, none⟩ u) (w.heap.size + 1) 26 #[u] := (HK2.out.grown ga (by omega)).set_ (cs := [_]) 0 u
            refine ⟨(b1.grown gb (by omega)).drew, b2.drew, ((HG9.out.grown ga fun g hg => by cases hg; exact Nat.le_refl _).grown gb fun g hg => by cases hg; omega).drew', fun b hb => ?_⟩
            have h1 := HG9.out.lt b hb
            have h2 : b ≠ w.heap.size ∧ b ≠ w.heap.size + 1 := by
              rcases Hhi7.out b hb with h | h
              · have := hF b h; omega
              · omega
            exact (gb.block b (Nat.lt_of_lt_of_le h1 ga.size) fun e => h2.2 (by cases e; rfl)).trans (ga.block b h1 fun e => h2.1 (by cases e; rfl))
          have HZ' := Lib.hid HZ
          clear HZ
          go_region_law (fail)
          all_goals (go_wp2_with fail)
          all_goals have HZ := HZ'.out
          all_goals
            refine bodyPost_ret (results_cells2 rfl _ _ w.heap.size (w.heap.size + 1) 26 26 #[.slice A5 n5 c5] #[.slice A7 n7 c7] (0, 0) (0, 0) _ rfl rfl (HZ _ _).1.heap (HZ _ _).2.1.heap Try.underlying26 rfl rfl rfl) rfl ?_
            exact ⟨_, _, _, _, _, _, F7, rfl, (HZ _ _).2.2.1, (listR_ok pfxR_ok).keep HX9.out (HZ _ _).2.2.2 fun _ h => h, (listR_ok pfxR_ok).keep HY9.out (HZ _ _).2.2.2 fun _ h => h⟩
end Go.Proofs.Ythiodgnklfbmjaa
