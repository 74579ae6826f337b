/- pset.Group. -/
import Derived.Test.YthiodgnklfbmjaaPsH
namespace Go.Proofs.Ythiodgnklfbmjaa
open Go.RowKit
set_option linter.unusedVariables false

theorem zero_int' (w : World) : (zeroValue 3).run Try.prog w = .ok (.int .i64 0) w := by kernel_rfl
theorem bytes_info : (Try.prog.info? 5).map (fun i => (i.zero, i.size, i.bytes)) = some (some (.int .u8 0), 1, 1) := by kernel_rfl
theorem setp_info : (Try.prog.info? 26).map (fun i => (i.zero, i.size, i.bytes)) = some (some (.agg #[.slice none 0 0]), 1, 24) := by kernel_rfl
theorem made_bytes (m : Nat) : madeCells (Value.int .u8 0).cells (m * 1) = (keyC (List.replicate m false)).toArray := by
  unfold madeCells keyC
  apply Array.ext_getElem?
  intro i
  simp
  by_cases hi : i < m
  · simp [hi, Value.cells, Nat.mod_one, byteOf]
  · simp [hi]
theorem make_bytes (w : World) (m : Nat) (hm : m ≤ 1048576) :
    (Instr.makeSlice 66 (.int .i64 (m : Int)) (.int .i64 (m : Int))).run Try.prog w = .ok (.slice (some ⟨w.heap.size, 0, none⟩) m m) (w.alloc (.cells (keyC (List.replicate m false)).toArray 5)) := by
  obtain ⟨ib, hib, hb0, hb1, hb2⟩ := info_parts bytes_info
  have h := run_makeSlice (P := Try.prog) (w := w) 66 5 ib _ Try.underlying66 hib hb0 .i64 .i64 (m : Int) (m : Int) (by omega) (Int.le_refl _) (by rw [hb1]; simp; omega) (by rw [hb2]; simp; omega) (by omega)
  rw [hb1] at h
  simp only [Int.toNat_natCast] at h
  rw [made_bytes] at h
  exact h
theorem strOfNums_key (bs : List Bool) : (strOfNums (bs.map byteOf)).data.toList = keyU bs := by
  rw [strOfNums_data]
  simp [keyU, List.map_map, Function.comp_def]
theorem conv_key {w : World} {g m c : Nat} {bs : List Bool} (h : Blk w g 5 (keyC bs).toArray) (hm : bs.length = m) :
    (convert 66 9 (.slice (some ⟨g, 0, none⟩) m c)).run Try.prog w = .ok (.string (strOfNums (bs.map byteOf))) w :=
  run_convert_bytes_arg w 66 5 Try.underlying66 Try.underlying5 g 0 m c (bs.map byteOf) (by simpa using hm) (fun i hi => by
    rw [h.cell, List.getElem?_toArray]
    unfold keyC
    rw [List.getElem?_map]
    have : i < bs.length := by omega
    simp [List.getElem?_eq_getElem this, Nat.zero_add, List.getD, List.getElem?_map]) 9 Try.underlying9
theorem groupSt_snoc (bys : List (List Pfx)) {all : List Pfx} {k : Nat} {p : Pfx} (h : all[k]? = some p) : groupSt bys (all.take (k + 1)) = stepG bys (groupSt bys (all.take k)) p := by
  rw [take_snoc h]
  simp [groupSt]
theorem baseG_len (st : GSt) (key : List Bool) : (baseG st key).length ≤ st.length + 1 := by
  unfold baseG
  split <;> simp
theorem groupSt_len (bys : List (List Pfx)) (all : List Pfx) : ∀ k, (groupSt bys (all.take k)).length ≤ k
  | 0 => by simp [groupSt]
  | k + 1 => by
    have ih := groupSt_len bys all k
    cases h : all[k]? with
    | none =>
      have : all.take (k + 1) = all.take k := by
        have := List.getElem?_eq_none_iff.1 h
        rw [List.take_of_length_le (by omega), List.take_of_length_le (by omega)]
      rw [this]; omega
    | some p =>
      rw [groupSt_snoc bys h]
      unfold stepG
      rw [List.length_modify]
      have := baseG_len (groupSt bys (all.take k)) (keyP bys p)
      omega
theorem keyC_step {bs : List Bool} {j m : Nat} {b : Bool} (hj : bs[j]? = some b) (hm : bs.length = m) :
    (keyC (bs.take j ++ List.replicate (m - j) false)).set j (.int .u8 (byteOf b)) = keyC (bs.take (j + 1) ++ List.replicate (m - (j + 1)) false) := by
  have hjl := (List.getElem?_eq_some_iff.1 hj).1
  obtain ⟨r, hr⟩ : ∃ r, m - j = r + 1 := ⟨m - j - 1, by omega⟩
  rw [hr, show m - (j + 1) = r by omega, List.replicate_succ, take_snoc hj]
  unfold keyC
  rw [List.map_append, List.map_cons, List.set_append_right _ _ (by simp; omega), List.map_append, List.map_append]
  simp [Nat.min_eq_left (Nat.le_of_lt hjl)]
theorem keyC_skip {bs : List Bool} {j m : Nat} (hj : bs[j]? = some false) (hm : bs.length = m) :
    bs.take j ++ List.replicate (m - j) false = bs.take (j + 1) ++ List.replicate (m - (j + 1)) false := by
  have hjl := (List.getElem?_eq_some_iff.1 hj).1
  obtain ⟨r, hr⟩ : ∃ r, m - j = r + 1 := ⟨m - j - 1, by omega⟩
  rw [hr, show m - (j + 1) = r by omega, List.replicate_succ, take_snoc hj]
  simp

theorem group_put {w X w5 : World} {F : Nat → Prop} {bv ix m3 c3 gn g5 c4 N : Nat} {A4 Av : Option Addr} {cv : Nat} {us : List Value} {gs : List (List Pfx)} {g g2 : List Pfx} {f : List UInt8 → Option Int} (h : OutR X F (w.heap.size + 2) (.slice (some ⟨bv, 0, none⟩) m3 c3) us gs) (hu : us[ix]? = some (.slice A4 gn c4)) (hgk : gs[ix]? = some g)
    (h2 : ownR 35 2 pfxR w5 F (w.heap.size + 2) (.slice Av g5 cv) g2) (hg : X.grownBy w5 (Value.slice A4 gn c4).ownBlock) (hv : (Value.slice Av g5 cv).ownBlock = (Value.slice A4 gn c4).ownBlock ∨ (Value.slice Av g5 cv).ownBlock = some X.heap.size) (hF : InF F X) (hB : Below w.heap.size w X)
    (hM : SMap Try.prog 9 3 X (w.heap.size + 1) N f) (hun : ∀ b, (Value.slice A4 gn c4).ownBlock = some b → bv ≠ b) (hu2 : ∀ b, (Value.slice A4 gn c4).ownBlock = some b → w.heap.size + 2 ≤ b) (hbv : w.heap.size + 2 ≤ bv) :
    w5.cell? ⟨bv, ix, none⟩ = some (.slice A4 gn c4) ∧ w5.frozen? ⟨bv, ix, none⟩ = false ∧ OutR (w5.setCell ⟨bv, ix, none⟩ (.slice Av g5 cv)) F (w.heap.size + 2) (.slice (some ⟨bv, 0, none⟩) m3 c3) (us.set ix (.slice Av g5 cv)) (gs.set ix g2) ∧
      Below w.heap.size w (w5.setCell ⟨bv, ix, none⟩ (.slice Av g5 cv)) ∧ SMap Try.prog 9 3 (w5.setCell ⟨bv, ix, none⟩ (.slice Av g5 cv)) (w.heap.size + 1) N f := by
  have hn : m3 = gs.length := by
    obtain ⟨A', c', he⟩ := own_val h.row
    cases he
    rfl
  subst hn
  obtain ⟨T, hblk, _, _, _, _, hx⟩ := ownsRow_blk h.row
  have hblk2 : Blk w5 bv 26 (us ++ T).toArray := hblk.grownO' hg hun
  have hk := (List.getElem?_eq_some_iff.1 hu).1
  have hgs := grownBy_setCell w5 bv ix (.slice Av g5 cv)
  refine ⟨?_, hblk2.free ix, h.put hu hgk h2 hg hv rfl hF, below_grown (below_grownO hB hg fun b hb => by have := hu2 b hb; omega) hgs (by omega), ?_⟩
  · rw [hblk2.cell, List.getElem?_toArray, List.getElem?_append_left hk, hu]
  · have hl := hM.lt
    have hs := hg.size
    exact (hM.block (hg.block _ hl fun e => by have := hu2 _ e.symm; omega)).block (hgs.block _ (by omega) fun e => by cases e; omega)
theorem groupSt_glen (bys : List (List Pfx)) (all : List Pfx) : ∀ k, ∀ g ∈ groupsG (groupSt bys (all.take k)), g.length ≤ k
  | 0, g, hg => by simp [groupSt, groupsG] at hg
  | k + 1, g, hg => by
    have ih := groupSt_glen bys all k
    cases h : all[k]? with
    | none =>
      have e : all.take (k + 1) = all.take k := by
        have := List.getElem?_eq_none_iff.1 h
        rw [List.take_of_length_le (by omega), List.take_of_length_le (by omega)]
      rw [e] at hg
      have := ih g hg
      omega
    | some p =>
      rw [groupSt_snoc bys h] at hg
      generalize hst : groupSt bys (all.take k) = st at hg ih
      have hb : ∀ g ∈ groupsG (baseG st (keyP bys p)), g.length ≤ k := fun g hg => by
        unfold baseG at hg
        split at hg
        · exact ih g hg
        · simp only [groupsG, List.map_append, List.map_cons, List.map_nil, List.mem_append, List.mem_singleton] at hg
          rcases hg with h | h
          · exact ih g h
          · rw [h]; simp
      obtain ⟨g0, hg0⟩ : ∃ g0, (groupsG (baseG st (keyP bys p)))[idxG st (keyP bys p)]? = some g0 := ⟨_, List.getElem?_eq_getElem (by rw [groupsG, List.length_map]; exact idxG_lt st _)⟩
      rw [groupsG_step bys st p g0 hg0] at hg
      have h0 := hb g0 (List.mem_of_getElem? hg0)
      rcases List.mem_or_eq_of_mem_set hg with h | h
      · have := hb g h; omega
      · rw [h]; simp; omega

def GroupPost (w : World) (F : Nat → Prop) (bys : List (List Pfx)) (all : List Pfx) (e : Ending) (w' : World) : Prop := ∃ A' m c' F', e = .returned (.slice A' m c') ∧ Grew w F w' F' ∧ listR 1 (listR 2 pfxR) w' F' [.slice A' m c'] (groupL bys all)

set_option maxRecDepth 100000 in
set_option maxHeartbeats 8000000 in
theorem set_Group (w : World) (F : Nat → Prop) (A : Option Addr) (n c : Nat) (all : List Pfx) (B : Option Addr) (nb cb : Nat) (bys : List (List Pfx)) (hl : listR 2 pfxR w F [.slice A n c] all) (hb : listR 1 (listR 2 pfxR) w F [.slice B nb cb] bys) (hF : InF F w)
    (hs : ∀ s ∈ bys, sortedP s ∧ s.length ≤ 1073741824) (hn : n ≤ 1048576) (hnb : nb ≤ 1048576) :
    Calls Try.prog 11 #[.agg #[.slice A n c], .slice B nb cb] w (GroupPost w F bys all) := by
  have HN := Lib.hid hl.len.1
  have HNb := Lib.hid hb.len.1
  have Hl := Lib.hid hl
  have Hb := Lib.hid hb
  have Hs := Lib.hid hs
  have hmm := @run_makeMap Try.prog
  have hmk := fun W => make_bytes W nb hnb
  have Hmap := Lib.hid (SMap.made (P := Try.prog) 9 3 (w.alloc (.cells #[.slice A n c] 26)))
  clear hl hb hs
  go_enter Try.func11, Try.ntmps11
  go_wp2_with fail
  go_loopw [5, 18] (fun o i wr => ∃ (k N : Nat) (A1 : Option Addr) (n1 c1 : Nat) (us : List Value), k ≤ n ∧ N ≤ k ∧ i = .int .i64 k ∧ o = .slice A1 n1 c1 ∧ Hid (OutR wr F (w.heap.size + 2) (.slice A1 n1 c1) us (groupsG (groupSt bys (all.take k)))) ∧ Hid (SMap Try.prog 9 3 wr (w.heap.size + 1) N (fK (keysG (groupSt bys (all.take k))))) ∧ Hid (Below w.heap.size w wr) ∧ w.heap.size + 2 ≤ wr.heap.size) (fun o i _ => n - (intOf i).toNat)
  case atStart => exact ⟨0, 0, none, 0, 0, [], Nat.zero_le _, Nat.le_refl _, rfl, rfl, Lib.hid (OutR.nil _ _ _), Lib.hid (by rw [List.take_zero, show fK (keysG (groupSt bys [])) = fun _ => none from by funext u; simp [fK, keysG, groupSt]]; simpa using Hmap.out), Lib.hid (((Below.refl _ _).alloc (Nat.le_refl _) _).alloc (by simp) _), by simp⟩
  case round =>
    obtain ⟨k, N, A1, n1, c1, us, hk, hNk, rfl, rfl, HO, HM, HB, hsz⟩ := hrel
    obtain ⟨w1, rfl⟩ : ∃ w1, w1 = wr := ⟨_, rfl⟩
    by_cases hlt : k < n
    · obtain ⟨a, l, b, off, hx, rfl, hFb, hf, d1, d2⟩ := pfx_at Hl.out hlt
      have e1 := (HB.out.cell (p := ⟨b, off + k * 2, none⟩) (hF b hFb)).trans d1
      have e2 := (HB.out.cell (p := ⟨b, off + k * 2 + 1, none⟩) (hF b hFb)).trans d2
      have hk0 : (0 : Int) ≤ (k : Int) := by omega
      have hk1 : (k : Int) < (n : Int) := by omega
      have Hx := Lib.hid hx
      have Hlt := Lib.hid hlt
      have Hf := Lib.hid hf
      clear hx hf d1 d2
      go_wp2_with fail
      have Hq := Lib.hid (Blk.new (w1.alloc (.cells #[.int .u32 a, .int .i64 l] 35)) 5 (keyC (List.replicate nb false)).toArray)
      have Hq2 := Lib.hid ((Blk.new w1 35 #[.int .u32 a, .int .i64 l]).alloc (.cells (keyC (List.replicate nb false)).toArray 5))
      have Hq3 := Lib.hid (((Below.refl w1.heap.size w1).alloc (Nat.le_refl _) (.cells #[.int .u32 a, .int .i64 l] 35)).alloc (by simp) (.cells (keyC (List.replicate nb false)).toArray 5))
      have hkl : Hid ((keyP bys ⟨a, l⟩).length = nb) := by show _ = _; unfold keyP; rw [List.length_map, HNb.out]
      clear e1 e2
      go_loopw [27] (fun i wx => ∃ j : Nat, j ≤ nb ∧ i = .int .i64 j ∧ Hid (Blk wx (w1.heap.size + 1) 5 (keyC ((keyP bys ⟨a, l⟩).take j ++ List.replicate (nb - j) false)).toArray) ∧ Hid (Blk wx w1.heap.size 35 #[.int .u32 a, .int .i64 l]) ∧ Hid (Below w1.heap.size w1 wx)) (fun i _ => nb - (intOf i).toNat)
      case atStart => exact ⟨0, Nat.zero_le _, rfl, Lib.hid (by simpa using Hq.out), Lib.hid Hq2.out, Lib.hid Hq3.out⟩
      case round =>
        obtain ⟨j, hj, rfl, HK, HP, HX⟩ := hrel
        by_cases hjlt : j < nb
        · obtain ⟨s, hy⟩ : ∃ s, bys[j]? = some s := ⟨_, List.getElem?_eq_getElem (by have := HNb.out; omega)⟩
          obtain ⟨b2, off2, cs2, rfl, hFb2, hv2, hr2⟩ := Hb.out.at_ hy
          obtain ⟨A2, c2, rfl⟩ := hv2.form
          have hj0 : (0 : Int) ≤ (j : Int) := by omega
          have hj1 : (j : Int) < (nb : Int) := by omega
          have hBx := below_step HB.out HX.out
          have e3 := (hBx.cell (p := ⟨b2, off2 + j, none⟩) (hF b2 hFb2)).trans (by simpa using hr2 0 _ rfl)
          have hss := Hs.out s (List.mem_of_getElem? hy)
          have hbi : Hid ((keyP bys ⟨a, l⟩)[j]? = some (memP s ⟨a, l⟩)) := by show _ = _; unfold keyP; rw [List.getElem?_map, hy]; rfl
          obtain ⟨y, hyy⟩ : ∃ y, y = memP s ⟨a, l⟩ := ⟨_, rfl⟩
          have hc := fun W (hW : Below w.heap.size w W) => set_Has W F A2 s.length c2 s a l ((listR_ok pfxR_ok).below hv2 hW hF) (hF.below hW) hss.1 Hf.out hss.2
          rw [← hyy] at hc hbi
          have Hc := Lib.hid hc
          have q1 := HP.out.cell 0
          have q2 := HP.out.cell 1
          have q3 : wr.cell? ⟨w1.heap.size, 0, none⟩ = some (.int .u32 a) := q1
          have q4 : wr.cell? ⟨w1.heap.size, 1, none⟩ = some (.int .i64 l) := q2
          have q5 := HP.out.lt
          have HBx := Lib.hid hBx
          clear hc hyy hv2 hr2 hy hss q1 q2 hBx
          go_wp2_with fail
          refine (Hc.out _ ?_).mono ?_
          · exact HBx.out.alloc HBx.out.size _
          rintro e w3 ⟨rfl, hb3⟩
          have hb4 : Below wr.heap.size wr w3 := below_step ((Below.refl _ _).alloc (Nat.le_refl _) _) hb3
          have hB3 := Lib.hid (below_step HX.out hb4)
          have hK3 := Lib.hid (HK.out.below hb4 HK.out.lt)
          have hP3 := Lib.hid (HP.out.below hb4 HP.out.lt)
          clear hb3 hb4
          cases y
          · go_wp2_with fail
            go_roundw
            case rel => exact ⟨j + 1, by omega, by go_num, Lib.hid (by rw [← keyC_skip hbi.out hkl.out]; exact hK3.out), hP3, hB3⟩
            case measure => simp [intOf]; omega
          · have hkc := hK3.out.set_ j (.int .u8 1)
            rw [show (1 : Int) = byteOf true from rfl, keyC_step hbi.out hkl.out] at hkc
            have hg := grownBy_setCell w3 (w1.heap.size + 1) j (.int .u8 1)
            have q6 : w3.cell? ⟨w1.heap.size + 1, j, none⟩ = some (.int .u8 0) := by
              rw [hK3.out.cell, List.getElem?_toArray]
              unfold keyC
              have hle : ((keyP bys ⟨a, l⟩).take j).length = j := by rw [List.length_take]; have := hkl.out; omega
              rw [List.getElem?_map, List.getElem?_append_right (by omega), hle, List.getElem?_replicate, if_pos (by omega)]
              rfl
            have q7 := hK3.out.free j
            have HP4 := Lib.hid (hP3.out.grown hg (by omega))
            have HB4 := Lib.hid (below_grown hB3.out hg (by omega))
            have HKC := Lib.hid hkc
            clear hkc hg
            go_wp2_with fail
            go_roundw
            case rel => exact ⟨j + 1, by omega, by go_num, HKC, HP4, HB4⟩
            case measure => simp [intOf]; omega
        · have hjn : j = nb := by omega
          subst hjn
          obtain ⟨st, hst⟩ : ∃ st, st = groupSt bys (all.take k) := ⟨_, rfl⟩
          obtain ⟨key, hkey⟩ : ∃ key, key = keyP bys ⟨a, l⟩ := ⟨_, rfl⟩
          have hstl : st.length ≤ k := by rw [hst]; exact groupSt_len bys all k
          rw [← hst] at HO HM
          rw [← hkey] at HK hkl
          have hKb : Hid (Blk wr (w1.heap.size + 1) 5 (keyC key).toArray) := by
            have := HK.out
            rw [Nat.sub_self, List.replicate_zero, List.append_nil, ← hkl.out, List.take_length] at this
            exact this
          have hSM := HM.out.below HX.out
          obtain ⟨S, hS⟩ : ∃ S, S = strOfNums (key.map byteOf) := ⟨_, rfl⟩
          have hSz : S.size ≤ maxLen := by rw [hS, strOfNums_size, List.length_map, hkl.out]; simp only [maxLen]; omega
          have hSk : S.data.toList = keyU key := by rw [hS, strOfNums_key]
          have hcv := conv_key (c := j) hKb.out hkl.out
          rw [← hS] at hcv
          have hlk := hSM.look_ok (t := 65) Try.underlying9 Try.underlying3 Try.underlying65 zero_int' hSz
          rw [hSk, fK_key] at hlk
          have hlen : (keysG st).length = st.length := by simp [keysG]
          rw [hlen] at hlk
          change _ = Result.ok (Value.tuple #[Value.int .i64 (Option.getD (if idxG st key < st.length then some (idxG st key : Int) else none) 0), Value.bool (Option.isSome (if idxG st key < st.length then some (idxG st key : Int) else none))]) wr at hlk
          have hOb := HO.out.kept (F' := F) (grownBy_of_below' HX.out 0) (fun g hg => by cases hg; omega) (fun b hb => HX.out.block b (by have := hF b hb; have := HB.out.size; omega)) (fun _ h => h) (fun _ h => .inl h)
          have HOb := Lib.hid hOb
          have HSM := Lib.hid hSM
          have Hst := Lib.hid hst
          have Hkey := Lib.hid hkey
          have HSk := Lib.hid hSk
          have HSz := Lib.hid hSz
          have HBr := Lib.hid (below_step HB.out HX.out)
          clear hst hkey hS hSk hSM hlen hOb hSz HK Hq Hq2 Hq3
          obtain ⟨ix, hix⟩ : ∃ ix, ix = idxG st key := ⟨_, rfl⟩
          rw [← hix] at hlk
          have Hix := Lib.hid hix
          clear hix
          obtain ⟨v0, hv0⟩ : ∃ v0, v0 = Option.getD (if ix < st.length then some (ix : Int) else none) 0 := ⟨_, rfl⟩
          obtain ⟨kn, hkn⟩ : ∃ kn, kn = Option.isSome (if ix < st.length then some (ix : Int) else none) := ⟨_, rfl⟩
          rw [← hv0, ← hkn] at hlk
          have Hv0 := Lib.hid hv0
          have Hkn := Lib.hid hkn
          clear hv0 hkn
          go_upto_if 47 with fail
          go_cut [5, 12] (fun o kk wx => ∃ (N3 m3 c3 : Nat) (A3 : Option Addr) (us3 : List Value), o = .slice A3 m3 c3 ∧ kk = .int .i64 ix ∧ N3 ≤ k + 1 ∧ Hid (OutR wx F (w.heap.size + 2) (.slice A3 m3 c3) us3 (groupsG (baseG st key))) ∧ Hid (SMap Try.prog 9 3 wx (w.heap.size + 1) N3 (fK (keysG (baseG st key)))) ∧ Hid (Blk wx w1.heap.size 35 #[.int .u32 a, .int .i64 l]) ∧ Hid (Below w.heap.size w wx))
          case first =>
            as_aux_lemma =>
            cases kn
            · have hin : ¬ ix < st.length := fun h => by
                have := Hkn.out
                rw [if_pos h] at this
                cases this
              have hixl : idxG st key = st.length := idxG_new (by rw [← Hix.out]; exact hin)
              have hng : n1 = (groupsG st).length := by
                obtain ⟨A', c', he⟩ := own_val HOb.out.row
                cases he
                rfl
              have hgl : (groupsG st).length = st.length := by simp [groupsG]
              have hnst : n1 = st.length := by omega
              obtain ⟨w5, hup, hSM5, hg5⟩ := HSM.out.put (v := (n1 : Int)) Try.underlying9 Try.underlying3 Try.underlying65 HSz.out (i64_mk (by omega) (by omega)) (by simp only [maxLen]; omega)
              have hsz5 := hg5.size
              have hMlt := HSM.out.lt
              have hP5 := HP.out.grown hg5 (by omega)
              have hB5 := below_grown HBr.out hg5 (by omega)
              have hO5 := HOb.out.kept (F' := F) hg5 (fun g hg => by cases hg; omega) (fun b hb => hg5.block b (by have := hF b hb; omega) (fun e => by cases e; have := hF _ hb; omega)) (fun _ h => h) (fun _ h => .inl h)
              have hba : Below w5.heap.size w5 (w5.alloc (.cells #[.slice none 0 0] 26)) := (Below.refl _ _).alloc (Nat.le_refl _) _
              have hO6 := hO5.kept (F' := F) (grownBy_of_below' hba 0) (fun g hg => by cases hg; omega) (fun b hb => hba.block b (by have := hF b hb; omega)) (fun _ h => h) (fun _ h => .inl h)
              have hP6 := hP5.alloc (.cells #[.slice none 0 0] 26)
              have hB6 := below_step hB5 hba
              have hSM6 := hSM5.below hba
              rw [HSk.out] at hSM6
              have HO6 := Lib.hid hO6
              have HP6 := Lib.hid hP6
              have HB6 := Lib.hid hB6
              have HSM6 := Lib.hid hSM6
              have hbase : Hid (w.heap.size + 2 ≤ (w5.alloc (.cells #[.slice none 0 0] 26)).heap.size) := by show _ ≤ _; simp; omega
              have h41 : Hid (n1 + 1 ≤ 4194304) := by show _ ≤ _; omega
              have hcell : Hid (∀ j u, [Value.slice none 0 0][j]? = some u → (w5.alloc (.cells #[.slice none 0 0] 26)).cell? (Addr.add ⟨w5.heap.size, 0, none⟩ j) = some u) := Lib.hid (cells_row_new w5 26 [.slice none 0 0])
              have hone : Hid (∀ u ∈ [Value.slice none 0 0], u.oneCell' = true) := Lib.hid (by simp [Value.oneCell'])
              have hnF6 : Hid (InF F (w5.alloc (.cells #[.slice none 0 0] 26))) := Lib.hid (hF.mono HB6.out.size)
              have hne : Hid (¬ idxG st key < st.length) := by show ¬ _; omega
              have Hixl := Lib.hid hixl
              have Hnst := Lib.hid hnst
              have Hgl := Lib.hid hgl
              have hr6 := HO6.out.row
              rw [show (groupsG st).length = n1 by omega] at hr6
              have Hr6 := Lib.hid hr6
              obtain ⟨is, his, hs0, hs1, hs2⟩ := info_parts setp_info
              clear hO6 hP6 hB6 hSM6 hba hO5 hP5 hB5 hSM5 hg5 hr6 hixl hng hgl hnst
              go_wp2_with (at_builtin; refine wpList_push_own _ rfl (.tmp 54) (.tmp 56) 29 rfl (w.heap.size + 2) 26 is _ 1 24 Try.underlying29 his hs0 hs1 hs2 rfl (by decide) _ n1 us rfl Hr6.out ⟨w5.heap.size, 0, none⟩ 1 1 [.slice none 0 0] rfl rfl hcell.out hone.out h41.out (by decide) hbase.out ?_)
              intro v7 w7 hr7 hg7 hv7
              obtain ⟨A3, c3, rfl⟩ := own_val hr7
              have hO7 : Hid (OutR w7 F (w.heap.size + 2) (.slice A3 (n1 + 1) c3) (us ++ [.slice none 0 0]) (groupsG st ++ [[]])) := Lib.hid (HO6.out.add (by rw [Hgl.out, ← Hnst.out]; exact hr7) hg7 (by simpa using hv7) hnF6.out)
              have hlt6 : ∀ b, (Value.slice A1 n1 c1).ownBlock = some b → w.heap.size + 2 ≤ b := fun b hb => (HO6.out.row.lt b hb).1
              have hM7 : Hid (SMap Try.prog 9 3 w7 (w.heap.size + 1) (N + 1) (putS (fK (keysG st)) (keyU key) (n1 : Int))) := Lib.hid (HSM6.out.block (hg7.block _ HSM6.out.lt (fun e => by have := hlt6 _ e.symm; omega)))
              have hP7 : Hid (Blk w7 w1.heap.size 35 #[.int .u32 a, .int .i64 l]) := Lib.hid (HP6.out.grownO' hg7 fun g' hg' e => by have := (HO.out.row.lt g' hg').2; omega)
              have hB7 : Hid (Below w.heap.size w w7) := Lib.hid (below_grownO HB6.out hg7 fun g hg => by have := hlt6 g hg; omega)
              clear hr7 hg7 hv7
              go_wp2_with fail
              go_meet
              refine ⟨N + 1, n1 + 1, c3, A3, us ++ [.slice none 0 0], rfl, ?_, by omega, ?_, ?_, hP7, hB7⟩
              · rw [Hix.out, Hixl.out, ← Hnst.out]
              · rw [show baseG st key = st ++ [(key, [])] by unfold baseG; rw [if_neg hne.out]]
                refine Lib.hid ?_
                rw [show groupsG (st ++ [(key, [])]) = groupsG st ++ [[]] by simp [groupsG]]
                exact hO7.out
              · rw [show baseG st key = st ++ [(key, [])] by unfold baseG; rw [if_neg hne.out]]
                refine Lib.hid ?_
                rw [show keysG (st ++ [(key, [])]) = keysG st ++ [key] by simp [keysG], ← fK_put (by have := hne.out; unfold idxG at this; rwa [show (keysG st).length = st.length by simp [keysG]]), show (keysG st).length = n1 by simp [keysG, Hnst.out]]
                exact hM7.out
            · have hin : ix < st.length := by
                rcases Nat.lt_or_ge ix st.length with h | h
                · exact h
                · have := Hkn.out
                  rw [if_neg (by omega)] at this
                  cases this
              have hv : v0 = (ix : Int) := by rw [Hv0.out, if_pos hin]; rfl
              have Hbase : Hid (baseG st key = st) := by show _ = _; unfold baseG; rw [if_pos (by rw [← Hix.out]; exact hin)]
              subst hv
              go_wp2_with fail
              go_meet
              exact ⟨N, n1, c1, A1, us, rfl, rfl, by omega, by rw [Hbase.out]; exact HOb, by rw [Hbase.out]; exact HSM, HP, HBr⟩
          case rest =>
            obtain ⟨N3, m3, c3, A3, us3, rfl, rfl, hN3, HO3, HM3, HP3, HB3⟩ := hcut
            obtain ⟨w3, rfl⟩ : ∃ w3, w3 = wc := ⟨_, rfl⟩
            have hbl := Lib.hid (baseG_len st key)
            have hixl : ix < (baseG st key).length := by rw [Hix.out]; exact idxG_lt st key
            have hgl : (groupsG (baseG st key)).length = (baseG st key).length := by simp [groupsG]
            have hm3 : m3 = (baseG st key).length := by
              obtain ⟨A', c', he⟩ := own_val HO3.out.row
              cases he
              exact hgl
            have hul := HO3.out.len
            obtain ⟨u, hu⟩ : ∃ u, us3[ix]? = some u := ⟨_, List.getElem?_eq_getElem (by omega)⟩
            obtain ⟨g, hg⟩ : ∃ g, (groupsG (baseG st key))[ix]? = some g := ⟨_, List.getElem?_eq_getElem (by omega)⟩
            have hown := HO3.out.own ix u g hu hg
            obtain ⟨A4, c4, rfl⟩ := hown.form
            obtain ⟨bv, c3', hA3, hbv, hbv2⟩ := own_form HO3.out.row (by omega)
            obtain ⟨rfl, hce⟩ : A3 = some ⟨bv, 0, none⟩ ∧ c3 = c3' := by simp only [Value.slice.injEq] at hA3; exact ⟨hA3.1, hA3.2.2⟩
            have hcell := HO3.out.row.cells (g := bv) rfl ix _ hu
            rw [Addr.add_mid] at hcell
            have d3 : w3.cell? ⟨bv, ix, none⟩ = some (.slice A4 g.length c4) := by simpa using hcell
            have q1 := HP3.out.cell 0
            have q2 := HP3.out.cell 1
            have q3 : w3.cell? ⟨w1.heap.size, 0, none⟩ = some (.int .u32 a) := q1
            have q4 : w3.cell? ⟨w1.heap.size, 1, none⟩ = some (.int .i64 l) := q2
            have hi0 : (0 : Int) ≤ (ix : Int) := by omega
            have hi1 : (ix : Int) < (m3 : Int) := by omega
            obtain ⟨ip_, hip, hp0, hp1, hp2⟩ := info_parts pfx_info
            obtain ⟨X, hX⟩ : ∃ X, X = (w3.alloc (.cells #[.int .u32 a, .int .i64 l] 35)).drew := ⟨_, rfl⟩
            have hbX : Below w3.heap.size w3 X := by rw [hX]; exact ((Below.refl _ _).alloc (Nat.le_refl _) _).drew
            have hXs : X.heap.size = w3.heap.size + 1 := by rw [hX]; simp
            have hw32 : w.heap.size + 2 ≤ w3.heap.size := by have := HM3.out.lt; have := HO3.out.row.lt bv rfl; omega
            have hOX : OutR X F (w.heap.size + 2) (.slice (some ⟨bv, 0, none⟩) m3 c3) us3 (groupsG (baseG st key)) := HO3.out.kept (F' := F) (grownBy_of_below' hbX 0) (fun g hg => by cases hg; omega) (fun b hb => hbX.block b (by have := hF b hb; omega)) (fun _ h => h) (fun _ h => .inl h)
            have HOX := Lib.hid hOX
            have HownX := Lib.hid (hOX.own ix _ g hu hg)
            have HBX := Lib.hid (below_step HB3.out hbX)
            have HMX := Lib.hid (HM3.out.below hbX)
            have HFX : Hid (InF F X) := Lib.hid (hF.mono HBX.out.size)
            have hgle : g.length ≤ all.length := by
              have hbase : ∀ g ∈ groupsG (baseG st key), g.length ≤ k := fun g hg => by
                unfold baseG at hg
                split at hg
                · rw [Hst.out] at hg; exact groupSt_glen bys all k g hg
                · simp only [groupsG, List.map_append, List.map_cons, List.map_nil, List.mem_append, List.mem_singleton] at hg
                  rcases hg with h | h
                  · rw [Hst.out] at h; exact groupSt_glen bys all k g h
                  · rw [h]; simp
              have h1 := hbase g (List.mem_of_getElem? hg)
              have := HN.out
              omega
            have hg63 : Hid (g.length + 1 ≤ 9223372036854775807) := by show _ ≤ _; have := HN.out; omega
            have hg64 : Hid ((g.length + 1) * 16 ≤ 140737488355328) := by show _ ≤ _; have := HN.out; omega
            have hbase : Hid (w.heap.size + 2 ≤ X.heap.size) := by show _ ≤ _; omega
            have hnews : Hid (∀ j u, [Value.int .u32 a, Value.int .i64 l][j]? = some u → X.cell? (Addr.add ⟨w3.heap.size, 0, none⟩ j) = some u) := by
              show ∀ j u, _
              rw [hX]
              exact news_of_range (rangeAt_new_d w3 35 [.int .u32 a, .int .i64 l])
            have hnewg : Hid (Groups pfxR X F [.int .u32 a, .int .i64 l] [⟨a, l⟩]) := Lib.hid (Groups.single ⟨rfl, Hf.out⟩)
            have HXe := Lib.hid hX
            have hunb : Hid (∀ b, (Value.slice A4 g.length c4).ownBlock = some b → bv ≠ b) := Lib.hid fun b hb e => HO3.out.apart ix _ b hu hb (by rw [← e]; rfl)
            have hu2 : Hid (∀ b, (Value.slice A4 g.length c4).ownBlock = some b → w.heap.size + 2 ≤ b) := Lib.hid fun b hb => (hown.lt b hb).1
            have Hbv := Lib.hid hbv
            have Hhu := Lib.hid hu
            have Hhg := Lib.hid hg
            have Hlen : Hid ((g ++ [(⟨a, l⟩ : Pfx)]).length = g.length + 1) := by show _ = _; simp
            clear hX hbX hOX hXs hgle hown hcell q1 q2 hul hm3 hgl hA3 hce hu hg hw32 hbv
            go_wp2_with fail
            go_region_law (first
              | (rw [← HXe.out]
                 refine step_pushB _ (by rfl) (.tmp 64) (.tmp 66) 22 (by rfl) pfxR_ok (w.heap.size + 2) 35 ip_ _ 16 Try.underlying22 hip hp0 hp1 hp2 (by rfl) (by decide) F _ g (by rfl) HownX.out ⟨w3.heap.size, 0, none⟩ 1 1 [.int .u32 a, .int .i64 l] [⟨a, l⟩] (by rfl) (by rfl) hnews.out hnewg.out HFX.out hg63.out hg64.out hbase.out ?_
                 intro v2 w5 hv2 hg2 hn2
                 obtain ⟨Av, cv, rfl⟩ := ownR.form_n hv2 Hlen.out
                 obtain ⟨d5, f5, hO5, hB5, hM5⟩ := group_put HOX.out Hhu.out Hhg.out hv2 hg2 hn2 HFX.out HBX.out HMX.out hunb.out hu2.out Hbv.out
                 have HO5 := Lib.hid hO5
                 have HB5 := Lib.hid hB5
                 have HM5 := Lib.hid hM5
                 clear hO5 hB5 hM5 hv2 hg2 hn2))
            all_goals (go_wp2_with fail)
            all_goals (go_roundw)
            all_goals first
              | (refine ⟨k + 1, N3, _, _, _, us3.set ix (.slice Av (g.length + 1) cv), by have := Hlt.out; omega, hN3, by go_num, rfl, Lib.hid ?_, Lib.hid ?_, HB5, ?_⟩)
              | (have := Hlt.out; simp [intOf]; omega)
            all_goals first
              | (rw [groupSt_snoc bys Hx.out, ← Hst.out, groupsG_step bys st ⟨a, l⟩ g (by rw [← Hkey.out, ← Hix.out]; exact Hhg.out), ← Hkey.out, ← Hix.out]; exact HO5.out)
              | (rw [groupSt_snoc bys Hx.out, ← Hst.out, keysG_step, ← Hkey.out]; exact HM5.out)
              | (have := HO5.out.row.lt bv rfl; omega)
    · have hkn : k = n := by omega
      subst hkn
      rw [HN.out, List.take_length] at HO HM
      go_wp2_with fail
      go_ret
      refine ⟨A1, n1, c1, _, rfl, ⟨HB.out, fun b hb => .inl hb, fun b hb => ?_, fun b hb => ?_⟩, HO.out.freeze⟩
      · rcases hb with hb | hb | ⟨i, u, hu, hb⟩
        · exact .inl hb
        · have := HO.out.row.lt b hb; exact .inr (by omega)
        · have hl := HO.out.len
          obtain ⟨g, hg⟩ : ∃ g, (groupsG (groupSt bys all))[i]? = some g := ⟨_, List.getElem?_eq_getElem (by have := (List.getElem?_eq_some_iff.1 hu).1; omega)⟩
          have := (HO.out.own i u g hu hg).lt b hb
          exact .inr (by omega)
      · rcases hb with hb | hb | ⟨i, u, hu, hb⟩
        · have := hF b hb; have := HB.out.size; omega
        · exact (HO.out.row.lt b hb).2
        · have hl := HO.out.len
          obtain ⟨g, hg⟩ : ∃ g, (groupsG (groupSt bys all))[i]? = some g := ⟨_, List.getElem?_eq_getElem (by have := (List.getElem?_eq_some_iff.1 hu).1; omega)⟩
          exact ((HO.out.own i u g hu hg).lt b hb).2
end Go.Proofs.Ythiodgnklfbmjaa
