/- The law PsetMakes. -/
import Derived.Test.YthiodgnklfbmjaaPsSel
namespace Go.Proofs.Ythiodgnklfbmjaa
open Go.RowKit
set_option linter.unusedVariables false
set_option linter.unusedSimpArgs false

def dedupL (xs : List Pfx) : List Pfx := xs.foldl (fun acc p => if memP acc p then acc else acc ++ [p]) []
theorem dedup_snoc (xs : List Pfx) (p : Pfx) : dedupL (xs ++ [p]) = if memP (dedupL xs) p then dedupL xs else dedupL xs ++ [p] := by
  unfold dedupL
  rw [List.foldl_append]
  rfl
theorem dedup_take {xs : List Pfx} {k : Nat} {p : Pfx} (h : xs[k]? = some p) : dedupL (xs.take (k + 1)) = if memP (dedupL (xs.take k)) p then dedupL (xs.take k) else dedupL (xs.take k) ++ [p] := by rw [take_snoc h, dedup_snoc]
theorem dedup_spec (xs : List Pfx) : ∀ k, k ≤ xs.length → (∀ p, p ∈ dedupL (xs.take k) ↔ p ∈ xs.take k) ∧ (dedupL (xs.take k)).Nodup ∧ (dedupL (xs.take k)).length ≤ k
  | 0, _ => by simp [dedupL]
  | k + 1, hk => by
    obtain ⟨h1, h2, h3⟩ := dedup_spec xs k (by omega)
    have hx := List.getElem?_eq_getElem (l := xs) (i := k) (by omega)
    rw [dedup_take hx, take_snoc hx]
    by_cases hm : memP (dedupL (xs.take k)) xs[k] = true
    · rw [if_pos hm]
      have hm' := (h1 _).1 (memP_iff.1 hm)
      refine ⟨fun p => ?_, h2, by omega⟩
      rw [h1, List.mem_append, List.mem_singleton]
      exact ⟨.inl, fun h => h.elim id fun e => e ▸ hm'⟩
    · rw [if_neg hm]
      refine ⟨fun p => ?_, ?_, by simp; omega⟩
      · rw [List.mem_append, List.mem_append, h1]
      · refine List.nodup_append.2 ⟨h2, by simp, fun a ha b hb => ?_⟩
        simp at hb
        subst hb
        exact fun e => hm (memP_iff.2 (e ▸ ha))
theorem coversP_mem {xs ys : List Pfx} (h : ∀ p, p ∈ xs ↔ p ∈ ys) (x : Int) : coversP xs x = coversP ys x := by
  unfold coversP
  rw [Bool.eq_iff_iff, List.any_eq_true, List.any_eq_true]
  exact ⟨fun ⟨p, h1, h2⟩ => ⟨p, (h p).1 h1, h2⟩, fun ⟨p, h1, h2⟩ => ⟨p, (h p).2 h1, h2⟩⟩
theorem memP_mem {xs ys : List Pfx} (h : ∀ p, p ∈ xs ↔ p ∈ ys) (q : Pfx) : memP xs q = memP ys q := by
  rw [Bool.eq_iff_iff, memP_iff, memP_iff]
  exact h q
theorem allG_snoc {xs : List Pfx} {k : Nat} {p : Pfx} (h : xs[k]? = some p) : (xs.take (k + 1)).all Pfx.good = ((xs.take k).all Pfx.good && p.good) := by
  rw [take_snoc h, List.all_append]
  simp
structure MksR (w : World) (F : Nat → Prop) (W : World) (F2 : Nat → Prop) (bs : Nat) (va : Value) (L : List Pfx) (pb : Array Value) (v : Value) (all : List Pfx) : Prop where
  grew : Grew w F W F2
  set : Blk W bs 26 #[va]
  list : listR 2 pfxR W F2 [va] L
  arg : Blk W w.heap.size 35 pb
  own : ownR 48 3 itemR W F2 (bs + 1) v all
  lt : w.heap.size < bs
theorem MksR.step {w : World} {F : Nat → Prop} {W W' : World} {F2 : Nat → Prop} {bs : Nat} {va : Value} {L : List Pfx} {pb : Array Value} {v : Value} {all : List Pfx} (h : MksR w F W F2 bs va L pb v all) (hb : Below W.heap.size W W') : MksR w F W' F2 bs va L pb v all :=
  ⟨h.grew.trans ⟨hb, fun _ h => h, fun _ h => .inl h, h.grew.lt.below hb⟩, h.set.below hb h.set.lt, (listR_ok pfxR_ok).below h.list hb h.grew.lt, h.arg.below hb h.arg.lt, h.own.below itemR_ok hb h.grew.lt, h.lt⟩
theorem MksR.push {w : World} {F : Nat → Prop} {W W' : World} {F2 : Nat → Prop} {bs : Nat} {va : Value} {L : List Pfx} {pb : Array Value} {v v' : Value} {all all' : List Pfx} (h : MksR w F W F2 bs va L pb v all) (hv : ownR 48 3 itemR W' F2 (bs + 1) v' all') (hg : W.grownBy W' v.ownBlock) : MksR w F W' F2 bs va L pb v' all' := by
  obtain ⟨_, _, _, hno⟩ := h.own
  have hk : ∀ b, F2 b → W'.heap[b]? = W.heap[b]? := fun b hb => hg.block b (h.grew.lt b hb) fun e => hno b e.symm hb
  have hlt := fun g' (e : v.ownBlock = some g') => (h.own.lt g' e).1
  have h1 := h.lt
  exact ⟨h.grew.grown hg fun g e => by have := hlt g e; omega, h.set.grownO hg fun g e => by have := hlt g e; omega, (listR_ok pfxR_ok).keep h.list hk fun _ h => h, h.arg.grownO hg fun g e => by have := hlt g e; omega, hv, h.lt⟩
set_option maxRecDepth 100000 in
set_option maxHeartbeats 8000000 in
theorem law_PsetMakes (w : World) (F : Nat → Prop) (A : Option Addr) (n c : Nat) (ps : List Pfx) (pa pl xi : Int) (hl : listR 2 pfxR w F [.slice A n c] ps) (hp : (Pfx.mk pa pl).Fits) (hx : 0 ≤ xi ∧ xi ≤ 4294967295) (hF : InF F w) :
    Calls Try.prog 4 #[.slice A n c, .agg #[.int .u32 pa, .int .i64 pl], .int .u32 xi] w fun e w' => e = .returned (.bool true) ∧ Below w.heap.size w w' := by
  obtain ⟨x, rfl⟩ : ∃ x : Nat, xi = x := ⟨xi.toNat, by omega⟩
  have hx4 : x < 4294967296 := by omega
  obtain ⟨ii, hii, hi0, hi1, hi2⟩ := info_parts item_info
  have HB0 := Lib.hid (show Below w.heap.size w (w.alloc (.cells #[.int .u32 pa, .int .i64 pl] 35)) from (Below.refl _ _).alloc (Nat.le_refl _) _)
  have HK0 := Lib.hid (Blk.new w 35 #[.int .u32 pa, .int .i64 pl])
  have HL := Lib.hid hl
  have HN := Lib.hid hl.len.1
  have HX4 := Lib.hid hx4
  have HXI := Lib.hid hx
  have HPF := Lib.hid hp
  clear hl hx4 hx hp
  go_enter Try.func4, Try.ntmps4
  go_wp2_with fail
  refine (law_head _).mono ?_
  rintro e w1 ⟨rfl, hB1⟩
  have HB1 := Lib.hid (below_step HB0.out hB1)
  have HK1 := Lib.hid (HK0.out.below hB1 HK0.out.lt)
  clear hB1
  by_cases h1 : 60 < n
  · have d1 : decide ((n : Int) > 60) = true := decide_eq_true (by omega)
    go_wp2_with fail
    go_ret
    exact ⟨rfl, HB1.out⟩
  have d1 : decide ((n : Int) > 60) = false := decide_eq_false (by omega)
  have hn60 : n ≤ 60 := by omega
  go_wp2_with fail
  refine (set_Of w1 F A n c ps ((listR_ok pfxR_ok).below HL.out HB1.out hF) (hF.below HB1.out)).mono ?_
  rintro e w2 ⟨A2, n2, c2, F2, rfl, hg2, hl2⟩
  have hba : Below w2.heap.size w2 (w2.alloc (.cells #[.slice A2 n2 c2] 26)) := (Below.refl _ _).alloc (Nat.le_refl _) _
  have hbb : Below (w2.alloc (.cells #[.slice A2 n2 c2] 26)).heap.size (w2.alloc (.cells #[.slice A2 n2 c2] 26)) ((w2.alloc (.cells #[.slice A2 n2 c2] 26)).alloc (.cells #[] 48)) := (Below.refl _ _).alloc (Nat.le_refl _) _
  have hk2 := HK1.out.below hg2.below HK1.out.lt
  have HM : Hid (MksR w F ((w2.alloc (.cells #[.slice A2 n2 c2] 26)).alloc (.cells #[] 48)) F2 w2.heap.size (.slice A2 n2 c2) (ofL ps) #[.int .u32 pa, .int .i64 pl] (.slice (some ⟨w2.heap.size + 1, 0, none⟩) 0 0) (dedupL (ps.take 0))) := by
    have hgr : Grew w F w2 F2 := Grew.trans ⟨HB1.out, fun _ h => h, fun _ h => .inl h, hF.below HB1.out⟩ hg2
    have hfa := hgr.lt.below hba
    have ho := ownR.made (α := Pfx) (size := 3) (R := itemR) (F := F2) (base := w2.heap.size + 1) (w2.alloc (.cells #[.slice A2 n2 c2] 26)) 48 (by simp) hfa
    refine Lib.hid ⟨(hgr.alloc _).alloc _, (Blk.new w2 26 #[.slice A2 n2 c2]).below hbb (by simp), (listR_ok pfxR_ok).below ((listR_ok pfxR_ok).below hl2 hba hgr.lt) hbb hfa, (hk2.below hba hk2.lt).below hbb (hk2.below hba hk2.lt).lt, ?_, hk2.lt⟩
    simpa [dedupL] using ho
  have HN2 := Lib.hid hl2.len.1
  clear hg2 hl2 hba hbb hk2 d1 h1
  go_upto_region 8 with fail
  refine wp_gen (fun W => MksR w F W F2 w2.heap.size _ _ _ _ _) HM.out ?_
  intro W0 hW0
  have HM0 := Lib.hid hW0
  clear hW0 HM
  go_wp2_with fail
  go_loopw [9, 10, 11, 31] (fun r v cv i wr => ∃ A1 m1 c1, ∃ k : Nat, k ≤ n ∧ i = .int .i64 k ∧ r = .bool ((ps.take k).all Pfx.good) ∧ cv = .bool (coversP (ps.take k) x) ∧ v = .slice A1 m1 c1 ∧ Hid (MksR w F wr F2 w2.heap.size (.slice A2 n2 c2) (ofL ps) #[.int .u32 pa, .int .i64 pl] (.slice A1 m1 c1) (dedupL (ps.take k)))) (fun _ _ _ i _ => n - (intOf i).toNat)
  case atStart => exact ⟨_, _, _, 0, Nat.zero_le _, rfl, rfl, rfl, rfl, HM0⟩
  case round =>
    clear HM0
    obtain ⟨A1, m1, c1, k, hk, rfl, rfl, rfl, rfl, HM⟩ := hrel
    by_cases hlt : k < n
    · obtain ⟨a, l, b, off, hq, rfl, hFb, hf, e1, e2⟩ := pfx_at HL.out hlt
      have d1 := (HM.out.grew.below.cell (p := ⟨b, off + k * 2, none⟩) (hF b hFb)).trans e1
      have d2 := (HM.out.grew.below.cell (p := ⟨b, off + k * 2 + 1, none⟩) (hF b hFb)).trans e2
      have hfa := hf.addr
      simp only at hfa
      obtain ⟨an, rfl⟩ : ∃ an : Nat, a = an := ⟨a.toNat, by omega⟩
      have han : an < 4294967296 := by omega
      have hk0 : (0 : Int) ≤ (k : Int) := by omega
      have hk1 : (k : Int) < (n : Int) := by omega
      obtain ⟨r, hr⟩ : ∃ r, r = (ps.take k).all Pfx.good := ⟨_, rfl⟩
      obtain ⟨g, hg⟩ : ∃ g, g = (Pfx.mk (an : Int) l).good := ⟨_, rfl⟩
      obtain ⟨cv, hcv⟩ : ∃ cv, cv = coversP (ps.take k) x := ⟨_, rfl⟩
      obtain ⟨h, hh⟩ : ∃ h, h = hasP ⟨(an : Int), l⟩ x := ⟨_, rfl⟩
      obtain ⟨d, hd⟩ : ∃ d, d = memP (dedupL (ps.take k)) ⟨(an : Int), l⟩ := ⟨_, rfl⟩
      have CR := Lib.hid (fun W => ref_Right W an l han hf.len)
      have CH := Lib.hid (fun W => ref_Has W an x l han HX4.out hf.len)
      rw [← hg] at CR
      rw [← hh] at CH
      have E1 : Hid ((ps.take (k + 1)).all Pfx.good = (r && g)) := Lib.hid (by rw [hr, hg]; exact allG_snoc hq)
      have E2 : Hid (coversP (ps.take (k + 1)) x = (cv || h)) := Lib.hid (by rw [hcv, hh]; exact coversP_snoc x hq)
      have E3 : Hid (dedupL (ps.take (k + 1)) = if d then dedupL (ps.take k) else dedupL (ps.take k) ++ [⟨(an : Int), l⟩]) := Lib.hid (by rw [hd]; exact dedup_take hq)
      have HD := Lib.hid hd
      have Hf := Lib.hid hf
      have hdl := (dedup_spec ps k (by have := HN.out; omega)).2.2
      have HDL := Lib.hid hdl
      rw [← hr, ← hcv]
      have hba : Below wr.heap.size wr (wr.alloc (.cells #[.int .u32 (an : Int), .int .i64 l] 35)) := (Below.refl _ _).alloc (Nat.le_refl _) _
      have HMa := Lib.hid (HM.out.step hba)
      have HNa := Lib.hid (Blk.new wr 35 #[.int .u32 (an : Int), .int .i64 l])
      clear hq e1 e2 hfa han hf hba hr hg hcv hh hd hdl
      go_upto_region 12 with fail
      refine wp_gen (fun W => MksR w F W F2 w2.heap.size _ _ _ _ _ ∧ Blk W wr.heap.size 35 #[.int .u32 (an : Int), .int .i64 l]) ⟨HMa.out, HNa.out⟩ ?_
      rintro W ⟨hMW, hkW⟩
      have HMW := Lib.hid hMW
      have z1 : ∀ w', Below W.heap.size W w' → w'.cell? ⟨wr.heap.size, 0, none⟩ = some (.int .u32 (an : Int)) := fun w' h => (hkW.below h hkW.lt).cell 0
      have z2 : ∀ w', Below W.heap.size W w' → w'.cell? ⟨wr.heap.size, 1, none⟩ = some (.int .i64 l) := fun w' h => (hkW.below h hkW.lt).cell 1
      have CF := Lib.hid (fun w' (h : Below W.heap.size W w') => ref_Find w' _ A1 m1 c1 _ an l ((HMW.out.step h).own.freeze itemR_ok) (fun b hb => hb.elim ((HMW.out.step h).grew.lt b) fun e => ((HMW.out.step h).own.lt b e).2))
      rw [← HD.out] at CF
      have hV : Below W.heap.size W W := Below.refl _ _
      clear hMW hkW d1 d2 HMa HNa HM
      cases r <;> cases cv
      all_goals
        go_upto_region 14 with (first
          | (go_at_call 17; (with_reducible refine (CR.out _).mono ?_); rintro e u1 ⟨rfl, hb1'⟩; replace hV := below_step hV hb1'; clear hb1')
          | (go_at_call 18; (with_reducible refine (CH.out _).mono ?_); rintro e u1 ⟨rfl, hb1'⟩; replace hV := below_step hV hb1'; clear hb1')
          | fail)
        cases d
        · go_upto_region 15 with (first | (go_at_call 19; (with_reducible refine (CF.out _ hV).mono ?_); rintro e uf ⟨rr, rfl, HR, hb1'⟩; have hrr := HR.out; simp only [Bool.not_false, Bool.not_true] at hrr; replace hV := below_step hV hb1'; clear hb1') | fail)
          have hb4 : Below uf.heap.size uf (uf.alloc (.cells (itemC ⟨(an : Int), l⟩).toArray 48)) := (Below.refl _ _).alloc (Nat.le_refl _) _
          have HM4 := Lib.hid ((HMW.out.step hV).step hb4)
          have h63 : Hid ((dedupL (ps.take k)).length + 1 ≤ 9223372036854775807) := by show _ ≤ _; have := HDL.out; omega
          have h64 : Hid (((dedupL (ps.take k)).length + 1) * 24 ≤ 140737488355328) := by show _ ≤ _; have := HDL.out; omega
          have hnews := Lib.hid (cells_row_new uf 48 (itemC ⟨(an : Int), l⟩))
          have hone : Hid (Groups itemR (uf.alloc (.cells (itemC ⟨(an : Int), l⟩).toArray 48)) F2 (itemC ⟨(an : Int), l⟩) [⟨(an : Int), l⟩]) := Lib.hid (item_one _ Hf.out)
          have hbs : Hid (w2.heap.size + 1 ≤ (uf.alloc (.cells (itemC ⟨(an : Int), l⟩).toArray 48)).heap.size) := by show _ ≤ _; have := HM4.out.set.lt; omega
          clear hb4
          go_wp2_with (at_builtin; refine wpList_pushB _ rfl (.tmp 59) (.tmp 65) 43 rfl itemR_ok (w2.heap.size + 1) 48 ii _ 24 Try.underlying43 hii hi0 hi1 hi2 rfl (by decide) F2 _ (dedupL (ps.take k)) rfl HM4.out.own ⟨uf.heap.size, 0, none⟩ 1 1 (itemC ⟨(an : Int), l⟩) [⟨(an : Int), l⟩] rfl rfl hnews.out hone.out HM4.out.grew.lt h63.out h64.out hbs.out ?_)
          intro v5 w5 hv5 hg5 hn5
          obtain ⟨A5, n5, c5, rfl, HN5⟩ := hv5.form3
          have HM5 := Lib.hid (HM4.out.push hv5 hg5)
          clear hv5 hg5 hn5
          go_wp2_with fail
          go_roundw
          case rel => exact ⟨_, _, _, k + 1, by omega, by go_num, by rw [E1.out]; rfl, by rw [E2.out]; rfl, rfl, Lib.hid (by rw [E3.out]; exact HM5.out)⟩
          case measure => simp [intOf]; omega
        · go_wp2_with (first | (go_at_call 19; (with_reducible refine (CF.out _ hV).mono ?_); rintro e uf ⟨rr, rfl, HR, hb1'⟩; have hrr := HR.out; simp only [Bool.not_false, Bool.not_true] at hrr; replace hV := below_step hV hb1'; clear hb1') | fail)
          have HM5 := Lib.hid (HMW.out.step hV)
          go_roundw
          case rel => exact ⟨_, _, _, k + 1, by omega, by go_num, by rw [E1.out]; rfl, by rw [E2.out]; rfl, rfl, Lib.hid (by rw [E3.out]; exact HM5.out)⟩
          case measure => simp [intOf]; omega
    · have hkk : ps.take k = ps := List.take_of_length_le (by have := HN.out; omega)
      have hds := dedup_spec ps k (by have := HN.out; omega)
      rw [hkk] at HM hds ⊢
      have HDS := Lib.hid hds
      have hV : Below wr.heap.size wr wr := Below.refl _ _
      clear hkk hds
      cases hall : ps.all Pfx.good
      · have hE : ofE ps = 1 := by
          unfold ofE
          rw [if_neg (by have := HN.out; omega), if_neg (by rw [hall]; simp)]
        have hO : ofL ps = [] := ofL_bad (by rw [hE]; omega)
        have hn2 : n2 = 0 := by have := HN2.out; rw [hO] at this; exact this
        have HE := Lib.hid hE
        have x1 := HM.out.set.cell 0
        have hgb := Lib.hid HM.out.grew.below
        rw [hE]
        subst hn2
        clear hE hO HE
        go_wp2_with fail
        refine (set_Len _ _ _ _).mono ?_
        rintro e w5 ⟨rfl, hb5⟩
        go_wp2_with fail
        go_ret
        exact ⟨rfl, below_step hgb.out hb5⟩
      · have hE : ofE ps = 0 := ofE_small (by have := HN.out; omega) hall
        rw [hE]
        obtain ⟨L, hL⟩ : ∃ L, L = ofL ps := ⟨_, rfl⟩
        have hsp := ofL_spec hE
        rw [← hL] at hsp HM HN2
        have HSP := Lib.hid hsp
        obtain ⟨F3, hF3⟩ : ∃ F3, F3 = fun b => F2 b ∨ (Value.slice A1 m1 c1).ownBlock = some b := ⟨_, rfl⟩
        have hl3 := HM.out.own.freeze itemR_ok
        have hg3 : Grew w F wr F3 := by rw [hF3]; exact HM.out.grew.own HM.out.own (by have := HM.out.lt; omega)
        rw [← hF3] at hl3
        have hm1 : m1 ≤ 60 := by have := hl3.len.1; have := HDS.out.2.2; omega
        have hsub : ∀ b, F2 b → F3 b := fun b hb => by rw [hF3]; exact .inl hb
        have HSo := Lib.hid (ref_Sorted wr F3 A1 m1 c1 _ hl3 hg3.lt (fun p hp => List.all_eq_true.1 hall p ((HDS.out.1 p).1 hp)) hm1 HDS.out.2.1)
        have HG3 := Lib.hid hg3
        have HLS := Lib.hid ((listR_ok pfxR_ok).keep (w' := wr) HM.out.list (fun _ _ => rfl) hsub)
        have HSB := Lib.hid HM.out.set
        have HAB := Lib.hid HM.out.arg
        clear hE hL hsp hl3 hg3 hm1 hsub hF3 HM hV
        go_wp2_with fail
        refine HSo.out.mono ?_
        rintro e w5 ⟨A6, n6, c6, F6, ys, rfl, hg6, hl6, hs6, hm6⟩
        have hys : ys = L := sorted_unique hs6 HSP.out.1 fun p => by rw [hm6, HDS.out.1, HSP.out.2.1]
        subst hys
        have hn6 : n6 = n2 := by have := hl6.len.1; have := HN2.out; omega
        subst hn6
        have HG6 := Lib.hid (HG3.out.trans hg6)
        have HL6 := Lib.hid hl6
        have HLS6 := Lib.hid ((listR_ok pfxR_ok).grew HLS.out hg6 HG3.out.lt)
        have HSB6 := Lib.hid (HSB.out.below hg6.below HSB.out.lt)
        have HAB6 := Lib.hid (HAB.out.below hg6.below HAB.out.lt)
        have hn64 : n6 ≤ 4096 := by have := HN2.out; have := HSP.out.2.2; omega
        clear hg6 hl6 hs6 hm6 HSo HG3 HLS HSB HAB
        have x1 := HSB6.out.cell 0
        have Hlist := Lib.hid (set_ListF w5 F6 A2 n6 c2 ys HLS6.out HG6.out.lt (by omega))
        go_wp2_with fail
        refine Hlist.out.mono ?_
        rintro e w6 ⟨A7, c7, F7, rfl, hl7, hF7, hb7⟩
        have HL7 := Lib.hid hl7
        have HF7 := Lib.hid hF7
        have HGW := Lib.hid (below_step HG6.out.below hb7)
        have HF6 := Lib.hid (HG6.out.lt.below hb7)
        have HL6' := Lib.hid ((listR_ok itemR_ok).below HL6.out hb7 HG6.out.lt)
        have HLS7 := Lib.hid ((listR_ok pfxR_ok).below HLS6.out hb7 HG6.out.lt)
        have HSB7 := Lib.hid (HSB6.out.below hb7 HSB6.out.lt)
        have HAB7 := Lib.hid (HAB6.out.below hb7 HAB6.out.lt)
        have HLp := Lib.hid ((listR_ok pfxR_ok).below HL.out HGW.out hF)
        have hFp := Lib.hid (hF.below HGW.out)
        clear x1 hl7 hF7 hb7 Hlist HG6 HL6 HLS6 HSB6 HAB6
        go_upto_region 21 with fail
        obtain ⟨u, hu⟩ : ∃ u, u = memP ps ⟨pa, pl⟩ := ⟨_, rfl⟩
        obtain ⟨cv, hcv⟩ : ∃ cv, cv = coversP ps x := ⟨_, rfl⟩
        have C1 := Lib.hid (fun w' (h : Below w6.heap.size w6 w') => set_Has w' F6 A2 n6 c2 ys pa pl ((listR_ok pfxR_ok).below HLS7.out h HF6.out) (HF6.out.below h) HSP.out.1 HPF.out (by omega))
        have C2 := Lib.hid (fun w' (h : Below w6.heap.size w6 w') => law_in w' F A n c ps pa pl ((listR_ok pfxR_ok).below HLp.out h hFp.out) (hFp.out.below h))
        have C3 := Lib.hid (fun w' (h : Below w6.heap.size w6 w') => set_Covers w' F6 A2 n6 c2 ys x ((listR_ok pfxR_ok).below HLS7.out h HF6.out) (HF6.out.below h) HXI.out)
        rw [memP_mem HSP.out.2.1, ← hu] at C1
        rw [← hu] at C2
        rw [coversP_mem HSP.out.2.1, ← hcv] at C3
        rw [← hcv]
        have x2 : ∀ w', Below w6.heap.size w6 w' → w'.cell? ⟨w2.heap.size, 0, none⟩ = some (.slice A2 n6 c2) := fun w' h => (HSB7.out.below h HSB7.out.lt).cell 0
        have x3 : ∀ w', Below w6.heap.size w6 w' → w'.cell? ⟨w.heap.size, 0, none⟩ = some (.int .u32 pa) := fun w' h => (HAB7.out.below h HAB7.out.lt).cell 0
        have x4 : ∀ w', Below w6.heap.size w6 w' → w'.cell? ⟨w.heap.size, 1, none⟩ = some (.int .i64 pl) := fun w' h => (HAB7.out.below h HAB7.out.lt).cell 1
        have hWW : Below w6.heap.size w6 w6 := Below.refl _ _
        clear hu hcv
        go_cut [112] (fun o wx => o = .bool false ∧ Below w6.heap.size w6 wx)
        case first =>
          as_aux_lemma =>
          refine wp_region_held_drew (S := (fun w' => Below w6.heap.size w6 w')) (by kernel_rfl) ?_ (fun hHeld => ?_)
          · (try dsimp only); (first | (with_reducible exact below_step (by assumption) hb1') | (repeat' (first | (with_reducible exact Below.refl _ _) | (with_reducible assumption) | (with_reducible exact Below.size (by assumption)) | (with_reducible refine Below.drew ?_))))
          refine wpAnyH_take (i := 0) (v := ?_) rfl (by kernel_rfl) (by kernel_rfl) (by kernel_rfl) (fun _ _ _ h => h) (Or.inl ⟨by rfl, ?_⟩) (by assumption) ?_
          rotate_left
          · (intro w hSw; (try dsimp only at hSw); go_simp; first | done | with_reducible rfl)
          try simp only [List.getElem_toArray, List.getElem_cons_zero, List.getElem_cons_succ, Act.put, List.setIfInBounds_toArray, List.set_cons_zero, List.set_cons_succ]
          refine wpAnyH_take (i := 1) (v := ?_) rfl (by kernel_rfl) (by kernel_rfl) (by kernel_rfl) (fun _ _ _ h => h) (Or.inl ⟨by rfl, ?_⟩) (by assumption) ?_
          rotate_left
          · (intro w hSw; (try dsimp only at hSw); go_simp; first | done | with_reducible rfl)
          try simp only [List.getElem_toArray, List.getElem_cons_zero, List.getElem_cons_succ, Act.put, List.setIfInBounds_toArray, List.set_cons_zero, List.set_cons_succ]
          refine wpAnyH_take (i := 2) (v := ?_) rfl (by kernel_rfl) (by kernel_rfl) (by kernel_rfl) (fun _ _ _ h => h) (Or.inl ⟨by rfl, ?_⟩) (by assumption) ?_
          rotate_left
          · (intro w hSw; (try dsimp only at hSw); go_simp; first | done | with_reducible rfl)
          try simp only [List.getElem_toArray, List.getElem_cons_zero, List.getElem_cons_succ, Act.put, List.setIfInBounds_toArray, List.set_cons_zero, List.set_cons_succ]
          refine wpAnyH_take (i := 3) (v := ?_) rfl (by kernel_rfl) (by kernel_rfl) (by kernel_rfl) (fun _ _ _ h => h) (Or.inl ⟨by rfl, ?_⟩) (by assumption) ?_
          rotate_left
          · (intro w hSw; (try dsimp only at hSw); go_simp; first | done | with_reducible rfl)
          try simp only [List.getElem_toArray, List.getElem_cons_zero, List.getElem_cons_succ, Act.put, List.setIfInBounds_toArray, List.set_cons_zero, List.set_cons_succ]
          refine wpAnyH_take (i := 4) (v := ?_) rfl (by kernel_rfl) (by kernel_rfl) (by kernel_rfl) (fun _ _ _ h => h) (Or.inl ⟨by rfl, ?_⟩) (by assumption) ?_
          rotate_left
          · (intro w hSw; (try dsimp only at hSw); go_simp; first | done | with_reducible rfl)
          try simp only [List.getElem_toArray, List.getElem_cons_zero, List.getElem_cons_succ, Act.put, List.setIfInBounds_toArray, List.set_cons_zero, List.set_cons_succ]
          refine wpAnyH_take (i := 5) (v := ?_) rfl (by kernel_rfl) (by kernel_rfl) (by kernel_rfl) (fun _ _ _ h => h) (Or.inl ⟨by rfl, ?_⟩) (by assumption) ?_
          rotate_left
          · (intro w hSw; (try dsimp only at hSw); go_simp; first | done | with_reducible rfl)
          try simp only [List.getElem_toArray, List.getElem_cons_zero, List.getElem_cons_succ, Act.put, List.setIfInBounds_toArray, List.set_cons_zero, List.set_cons_succ]
          refine wpAnyH_take (i := 6) (v := ?_) rfl (by kernel_rfl) (by kernel_rfl) (by kernel_rfl) (fun _ _ _ h => h) (Or.inl ⟨by rfl, ?_⟩) (by assumption) ?_
          rotate_left
          · (intro w hSw; (try dsimp only at hSw); go_simp; first | done | with_reducible rfl)
          try simp only [List.getElem_toArray, List.getElem_cons_zero, List.getElem_cons_succ, Act.put, List.setIfInBounds_toArray, List.set_cons_zero, List.set_cons_succ]
          refine wpAnyH_take (i := 7) (v := ?_) rfl (by kernel_rfl) (by kernel_rfl) (by kernel_rfl) (fun _ _ _ h => h) (Or.inl ⟨by rfl, ?_⟩) (by assumption) ?_
          rotate_left
          · (intro w hSw; (try dsimp only at hSw); go_simp; first | done | with_reducible rfl)
          try simp only [List.getElem_toArray, List.getElem_cons_zero, List.getElem_cons_succ, Act.put, List.setIfInBounds_toArray, List.set_cons_zero, List.set_cons_succ]
          refine wpAnyH_take (i := 8) (v := ?_) rfl (by kernel_rfl) (by kernel_rfl) (by kernel_rfl) (fun _ _ _ h => h) (Or.inl ⟨by rfl, ?_⟩) (by assumption) ?_
          rotate_left
          · (intro w hSw; (try dsimp only at hSw); go_simp; first | done | with_reducible rfl)
          try simp only [List.getElem_toArray, List.getElem_cons_zero, List.getElem_cons_succ, Act.put, List.setIfInBounds_toArray, List.set_cons_zero, List.set_cons_succ]
          refine wpAnyH_take (i := 9) (v := ?_) rfl (by kernel_rfl) (by kernel_rfl) (by kernel_rfl) (fun _ _ _ h => h) (Or.inl ⟨by rfl, ?_⟩) (by assumption) ?_
          rotate_left
          · (intro w hSw; (try dsimp only at hSw); go_simp; first | done | with_reducible rfl)
          try simp only [List.getElem_toArray, List.getElem_cons_zero, List.getElem_cons_succ, Act.put, List.setIfInBounds_toArray, List.set_cons_zero, List.set_cons_succ]
          refine wpAnyH_take (i := 10) (v := ?_) rfl (by kernel_rfl) (by kernel_rfl) (by kernel_rfl) (fun _ _ _ h => h) (Or.inl ⟨by rfl, ?_⟩) (by assumption) ?_
          rotate_left
          · (intro w hSw; (try dsimp only at hSw); go_simp; first | done | with_reducible rfl)
          try simp only [List.getElem_toArray, List.getElem_cons_zero, List.getElem_cons_succ, Act.put, List.setIfInBounds_toArray, List.set_cons_zero, List.set_cons_succ]
          refine wpAnyH_take (i := 12) (v := ?_) rfl (by kernel_rfl) (by kernel_rfl) (by kernel_rfl) (fun _ _ _ h => h) (Or.inl ⟨by rfl, ?_⟩) (by assumption) ?_
          rotate_left
          · (intro w hSw; (try dsimp only at hSw); go_simp; first | done | with_reducible rfl)
          try simp only [List.getElem_toArray, List.getElem_cons_zero, List.getElem_cons_succ, Act.put, List.setIfInBounds_toArray, List.set_cons_zero, List.set_cons_succ]
          refine wpAnyH_take (i := 13) (v := ?_) rfl (by kernel_rfl) (by kernel_rfl) (by kernel_rfl) (fun _ _ _ h => h) (Or.inl ⟨by rfl, ?_⟩) (by assumption) ?_
          rotate_left
          · (intro w hSw; (try dsimp only at hSw); go_simp; first | done | with_reducible rfl)
          try simp only [List.getElem_toArray, List.getElem_cons_zero, List.getElem_cons_succ, Act.put, List.setIfInBounds_toArray, List.set_cons_zero, List.set_cons_succ]
          refine wpAnyH_ready (rs := [11]) (by kernel_rfl) (by simp) ?_
          refine AllReadyH.cons rfl (fun K hK => ?_) AllReadyH.nil
          go_simp
          (go_at_call 15; (with_reducible refine (set_Len _ _ _ _).mono ?_); rintro e u1 ⟨rfl, hb1'⟩; have hq : Below w6.heap.size w6 u1 := below_step (by assumption) hb1')
          go_wp2_with fail
          refine hK.out _ _ ?_ (fun hHeldN => ?_)
          · (try dsimp only); (first | (with_reducible exact below_step (by assumption) hb1') | (repeat' (first | (with_reducible exact Below.refl _ _) | (with_reducible assumption) | (with_reducible exact Below.size (by assumption)) | (with_reducible refine Below.drew ?_))))
          clear hK K hHeld
          try clear hb1' hq
          have hHeld := hHeldN
          clear hHeldN
          try simp only [List.getElem_toArray, List.getElem_cons_zero, List.getElem_cons_succ, Act.put, List.setIfInBounds_toArray, List.set_cons_zero, List.set_cons_succ]
          refine wpAnyH_take (i := 14) (v := ?_) rfl (by kernel_rfl) (by kernel_rfl) (by kernel_rfl) (fun _ _ _ h => h) (Or.inl ⟨by rfl, ?_⟩) (by assumption) ?_
          rotate_left
          · (intro w hSw; (try dsimp only at hSw); go_simp; first | done | with_reducible rfl)
          try simp only [List.getElem_toArray, List.getElem_cons_zero, List.getElem_cons_succ, Act.put, List.setIfInBounds_toArray, List.set_cons_zero, List.set_cons_succ]
          refine wpAnyH_take (i := 15) (v := ?_) rfl (by kernel_rfl) (by kernel_rfl) (by kernel_rfl) (fun _ _ _ h => h) (Or.inl ⟨by rfl, ?_⟩) (by assumption) ?_
          rotate_left
          · (intro w hSw; (try dsimp only at hSw); go_simp; first | done | with_reducible rfl)
          try simp only [List.getElem_toArray, List.getElem_cons_zero, List.getElem_cons_succ, Act.put, List.setIfInBounds_toArray, List.set_cons_zero, List.set_cons_succ]
          refine wpAnyH_take (i := 16) (v := ?_) rfl (by kernel_rfl) (by kernel_rfl) (by kernel_rfl) (fun _ _ _ h => h) (Or.inl ⟨by rfl, ?_⟩) (by assumption) ?_
          rotate_left
          · (intro w hSw; (try dsimp only at hSw); go_simp; first | done | with_reducible rfl)
          try simp only [List.getElem_toArray, List.getElem_cons_zero, List.getElem_cons_succ, Act.put, List.setIfInBounds_toArray, List.set_cons_zero, List.set_cons_succ]
          refine wpAnyH_take (i := 17) (v := ?_) rfl (by kernel_rfl) (by kernel_rfl) (by kernel_rfl) (fun _ _ _ h => h) (Or.inl ⟨by rfl, ?_⟩) (by assumption) ?_
          rotate_left
          · (intro w hSw; (try dsimp only at hSw); go_simp; first | done | with_reducible rfl)
          try simp only [List.getElem_toArray, List.getElem_cons_zero, List.getElem_cons_succ, Act.put, List.setIfInBounds_toArray, List.set_cons_zero, List.set_cons_succ]
          refine wpAnyH_take (i := 18) (v := ?_) rfl (by kernel_rfl) (by kernel_rfl) (by kernel_rfl) (fun _ _ _ h => h) (Or.inl ⟨by rfl, ?_⟩) (by assumption) ?_
          rotate_left
          · (intro w hSw; (try dsimp only at hSw); go_simp; first | done | with_reducible rfl)
          try simp only [List.getElem_toArray, List.getElem_cons_zero, List.getElem_cons_succ, Act.put, List.setIfInBounds_toArray, List.set_cons_zero, List.set_cons_succ]
          refine wpAnyH_take (i := 20) (v := ?_) rfl (by kernel_rfl) (by kernel_rfl) (by kernel_rfl) (fun _ _ _ h => h) (Or.inl ⟨by rfl, ?_⟩) (by assumption) ?_
          rotate_left
          · (intro w hSw; (try dsimp only at hSw); go_simp; first | done | with_reducible rfl)
          try simp only [List.getElem_toArray, List.getElem_cons_zero, List.getElem_cons_succ, Act.put, List.setIfInBounds_toArray, List.set_cons_zero, List.set_cons_succ]
          refine wpAnyH_take (i := 21) (v := ?_) rfl (by kernel_rfl) (by kernel_rfl) (by kernel_rfl) (fun _ _ _ h => h) (Or.inl ⟨by rfl, ?_⟩) (by assumption) ?_
          rotate_left
          · (intro w hSw; (try dsimp only at hSw); go_simp; first | done | with_reducible rfl)
          try simp only [List.getElem_toArray, List.getElem_cons_zero, List.getElem_cons_succ, Act.put, List.setIfInBounds_toArray, List.set_cons_zero, List.set_cons_succ]
          refine wpAnyH_ready (rs := [19]) (by kernel_rfl) (by simp) ?_
          refine AllReadyH.cons rfl (fun K hK => ?_) AllReadyH.nil
          go_simp
          (go_at_call 14; (with_reducible refine (C1.out _ ?_).mono ?_); assumption; rintro e u1 ⟨rfl, hb1'⟩; have hq : Below w6.heap.size w6 u1 := below_step (by assumption) hb1')
          go_wp2_with fail
          refine hK.out _ _ ?_ (fun hHeldN => ?_)
          · (try dsimp only); (first | (with_reducible exact below_step (by assumption) hb1') | (repeat' (first | (with_reducible exact Below.refl _ _) | (with_reducible assumption) | (with_reducible exact Below.size (by assumption)) | (with_reducible refine Below.drew ?_))))
          clear hK K hHeld
          try clear hb1' hq
          have hHeld := hHeldN
          clear hHeldN
          try simp only [List.getElem_toArray, List.getElem_cons_zero, List.getElem_cons_succ, Act.put, List.setIfInBounds_toArray, List.set_cons_zero, List.set_cons_succ]
          refine wpAnyH_ready (rs := [22]) (by kernel_rfl) (by simp) ?_
          refine AllReadyH.cons rfl (fun K hK => ?_) AllReadyH.nil
          go_simp
          (go_at_call 21; (with_reducible refine (C2.out _ ?_).mono ?_); assumption; rintro e u1 ⟨rfl, hb1'⟩; have hq : Below w6.heap.size w6 u1 := below_step (by assumption) hb1')
          go_wp2_with fail
          refine hK.out _ _ ?_ (fun hHeldN => ?_)
          · (try dsimp only); (first | (with_reducible exact below_step (by assumption) hb1') | (repeat' (first | (with_reducible exact Below.refl _ _) | (with_reducible assumption) | (with_reducible exact Below.size (by assumption)) | (with_reducible refine Below.drew ?_))))
          clear hK K hHeld
          try clear hb1' hq
          have hHeld := hHeldN
          clear hHeldN
          try simp only [List.getElem_toArray, List.getElem_cons_zero, List.getElem_cons_succ, Act.put, List.setIfInBounds_toArray, List.set_cons_zero, List.set_cons_succ]
          refine wpAnyH_take (i := 23) (v := ?_) rfl (by kernel_rfl) (by kernel_rfl) (by kernel_rfl) (fun _ _ _ h => h) (Or.inl ⟨by rfl, ?_⟩) (by assumption) ?_
          rotate_left
          · (intro w hSw; (try dsimp only at hSw); go_simp; first | done | with_reducible rfl)
          try simp only [List.getElem_toArray, List.getElem_cons_zero, List.getElem_cons_succ, Act.put, List.setIfInBounds_toArray, List.set_cons_zero, List.set_cons_succ]
          refine wpAnyH_take (i := 24) (v := ?_) rfl (by kernel_rfl) (by kernel_rfl) (by kernel_rfl) (fun _ _ _ h => h) (Or.inl ⟨by rfl, ?_⟩) (by assumption) ?_
          rotate_left
          · (intro w hSw; (try dsimp only at hSw); go_simp; first | done | with_reducible rfl)
          try simp only [List.getElem_toArray, List.getElem_cons_zero, List.getElem_cons_succ, Act.put, List.setIfInBounds_toArray, List.set_cons_zero, List.set_cons_succ]
          refine wpAnyH_take (i := 25) (v := ?_) rfl (by kernel_rfl) (by kernel_rfl) (by kernel_rfl) (fun _ _ _ h => h) (Or.inl ⟨by rfl, ?_⟩) (by assumption) ?_
          rotate_left
          · (intro w hSw; (try dsimp only at hSw); go_simp; first | done | with_reducible rfl)
          try simp only [List.getElem_toArray, List.getElem_cons_zero, List.getElem_cons_succ, Act.put, List.setIfInBounds_toArray, List.set_cons_zero, List.set_cons_succ]
          refine wpAnyH_take (i := 26) (v := ?_) rfl (by kernel_rfl) (by kernel_rfl) (by kernel_rfl) (fun _ _ _ h => h) (Or.inl ⟨by rfl, ?_⟩) (by assumption) ?_
          rotate_left
          · (intro w hSw; (try dsimp only at hSw); go_simp; first | done | with_reducible rfl)
          try simp only [List.getElem_toArray, List.getElem_cons_zero, List.getElem_cons_succ, Act.put, List.setIfInBounds_toArray, List.set_cons_zero, List.set_cons_succ]
          refine wpAnyH_take (i := 27) (v := ?_) rfl (by kernel_rfl) (by kernel_rfl) (by kernel_rfl) (fun _ _ _ h => h) (Or.inl ⟨by rfl, ?_⟩) (by assumption) ?_
          rotate_left
          · (intro w hSw; (try dsimp only at hSw); go_simp; first | done | with_reducible rfl)
          try simp only [List.getElem_toArray, List.getElem_cons_zero, List.getElem_cons_succ, Act.put, List.setIfInBounds_toArray, List.set_cons_zero, List.set_cons_succ]
          refine wpAnyH_take (i := 29) (v := ?_) rfl (by kernel_rfl) (by kernel_rfl) (by kernel_rfl) (fun _ _ _ h => h) (Or.inl ⟨by rfl, ?_⟩) (by assumption) ?_
          rotate_left
          · (intro w hSw; (try dsimp only at hSw); go_simp; first | done | with_reducible rfl)
          try simp only [List.getElem_toArray, List.getElem_cons_zero, List.getElem_cons_succ, Act.put, List.setIfInBounds_toArray, List.set_cons_zero, List.set_cons_succ]
          refine wpAnyH_ready (rs := [28]) (by kernel_rfl) (by simp) ?_
          refine AllReadyH.cons rfl (fun K hK => ?_) AllReadyH.nil
          go_simp
          (go_at_call 22; (with_reducible refine (C3.out _ ?_).mono ?_); assumption; rintro e u1 ⟨rfl, hb1'⟩; have hq : Below w6.heap.size w6 u1 := below_step (by assumption) hb1')
          go_wp2_with fail
          refine hK.out _ _ ?_ (fun hHeldN => ?_)
          · (try dsimp only); (first | (with_reducible exact below_step (by assumption) hb1') | (repeat' (first | (with_reducible exact Below.refl _ _) | (with_reducible assumption) | (with_reducible exact Below.size (by assumption)) | (with_reducible refine Below.drew ?_))))
          clear hK K hHeld
          try clear hb1' hq
          have hHeld := hHeldN
          clear hHeldN
          try simp only [List.getElem_toArray, List.getElem_cons_zero, List.getElem_cons_succ, Act.put, List.setIfInBounds_toArray, List.set_cons_zero, List.set_cons_succ]
          refine wpAnyH_take (i := 30) (v := ?_) rfl (by kernel_rfl) (by kernel_rfl) (by kernel_rfl) (fun _ _ _ h => h) (Or.inl ⟨by rfl, ?_⟩) (by assumption) ?_
          rotate_left
          · (intro w hSw; (try dsimp only at hSw); go_simp; first | done | with_reducible rfl)
          try simp only [List.getElem_toArray, List.getElem_cons_zero, List.getElem_cons_succ, Act.put, List.setIfInBounds_toArray, List.set_cons_zero, List.set_cons_succ]
          refine wpAnyH_take (i := 31) (v := ?_) rfl (by kernel_rfl) (by kernel_rfl) (by kernel_rfl) (fun _ _ _ h => h) (Or.inl ⟨by rfl, ?_⟩) (by assumption) ?_
          rotate_left
          · (intro w hSw; (try dsimp only at hSw); go_simp; first | done | with_reducible rfl)
          try simp only [List.getElem_toArray, List.getElem_cons_zero, List.getElem_cons_succ, Act.put, List.setIfInBounds_toArray, List.set_cons_zero, List.set_cons_succ]
          refine wpAnyH_done (by kernel_rfl) ?_ _
          go_wp2_with fail
          go_meet
          exact ⟨rfl, by assumption⟩
        case rest =>
        clear hWW x2 x3 x4 C1 C2 C3
        obtain ⟨rfl, hWW⟩ := hcut
        obtain ⟨wl, rfl⟩ : ∃ wl : World, wl = wc := ⟨_, rfl⟩
        have HLa := Lib.hid ((listR_ok pfxR_ok).below HL7.out hWW HF7.out)
        have HFa := Lib.hid (HF7.out.below hWW)
        have HLb := Lib.hid ((listR_ok itemR_ok).below HL6'.out hWW HF6.out)
        have HFb := Lib.hid (HF6.out.below hWW)
        have HBw := Lib.hid (below_step HGW.out hWW)
        clear hWW
        go_wp2_with fail
        go_loopw [115] (fun i wr => ∃ j : Nat, j ≤ n6 ∧ i = .int .i64 j ∧ Below wl.heap.size wl wr) (fun i _ => n6 - (intOf i).toNat)
        case atStart => exact ⟨0, Nat.zero_le _, rfl, Below.refl _ _⟩
        case round =>
          obtain ⟨j, hj, rfl, hB⟩ := hrel
          by_cases hltj : j < n6
          · obtain ⟨a, l, b, off, hq, rfl, hFb1, hf, e1, e2⟩ := pfx_at HLa.out hltj
            obtain ⟨a', l', b', off', hq', rfl, hFb2, hf', e3, e4, e5⟩ := item_at HLb.out hltj
            rw [hq] at hq'
            cases hq'
            have d1 := (hB.cell (p := ⟨b, off + j * 2, none⟩) (HFa.out b hFb1)).trans e1
            have d2 := (hB.cell (p := ⟨b, off + j * 2 + 1, none⟩) (HFa.out b hFb1)).trans e2
            have hba : Below wl.heap.size wl (wr.alloc (.cells #[.int .u32 a, .int .i64 l] 35)) := hB.alloc hB.size _
            have HBA := Lib.hid hba
            have HNW := Lib.hid (Blk.new wr 35 #[.int .u32 a, .int .i64 l])
            have hj0 : (0 : Int) ≤ (j : Int) := by omega
            have hj1 : (j : Int) < (n6 : Int) := by omega
            have hbl' := HFb.out b' hFb2
            clear hq e1 e2 hba
            go_upto_region 26 with fail
            refine wp_gen (fun W => Below wl.heap.size wl W ∧ Blk W wr.heap.size 35 #[.int .u32 a, .int .i64 l]) ⟨HBA.out, HNW.out⟩ ?_
            rintro W ⟨hW, hkW⟩
            have HW := Lib.hid hW
            have q1 := hkW.cell 0
            have q2 := hkW.cell 1
            have q3 := (hW.cell (p := ⟨b', off' + j * 3, none⟩) hbl').trans e3
            have q4 := (hW.cell (p := ⟨b', off' + j * 3 + 1, none⟩) hbl').trans e4
            clear hW hkW e3 e4 e5 d1 d2 hB
            go_quiet (fail)
            go_wp2_with fail
            go_roundw
            case rel => exact ⟨j + 1, by omega, by go_num, below_dn2 HW.out _⟩
            case measure => simp [intOf]; omega
          · have HB9 := Lib.hid (below_step HBw.out hB)
            go_wp2_with fail
            go_ret
            exact ⟨rfl, HB9.out⟩
end Go.Proofs.Ythiodgnklfbmjaa
