/- slices.Compact at headers. -/
import Derived.Test.YtjeligbgcofaeaaDoorHdG
import Derived.Test.YtjeligbgcofaeaaDoorCompK
namespace Go.Proofs.YtjeligbgcofaeaaDoor
open Go.RowKit Go.Sort Go.Shelf
set_option linter.unusedVariables false
set_option linter.unusedSimpArgs false

def eqO (a b : OHdr) : Bool := eqHB a.1 b.1
theorem eqO_iff (a b : OHdr) : eqO a b = true ↔ a = b := (eqHB_iff a.1 b.1).trans ⟨Subtype.ext, fun h => by rw [h]⟩
theorem yields_cmp {ops : Array Oper} {S : World → Prop} {op : Oper} {a : Act} (hw : Region.wanted op (yielded ops a.tmps) = true) (o : BinOp) (x y : Operand) (t2 : TypeId) (ho : op.op = .binOp o 31 x y t2) (h g : Hdr) (hx : a.eval x = .agg h.vals.toArray) (hy : a.eval y = .agg g.vals.toArray) (r : Bool)
    (hr : ∀ w, (binOp o 31 (.agg h.vals.toArray) (.agg g.vals.toArray)).run Tryd.prog w = .ok (.bool r) w) : YieldsIf Tryd.prog ops S op (.bool r) a :=
  .inl ⟨hw, fun w _ => by
    unfold execOp
    simp only [ho, hx, hy, Sem.run_bind, Sem.run_pure, run_eqGuard_agg (P := Tryd.prog) w o 31 x y h.vals.toArray g.vals.toArray (by kernel_rfl), hr, Result.andThen_ok]⟩
theorem zero_hdr (w : World) : (zeroValue 31).run Tryd.prog w = .ok (.agg zeroH.vals.toArray) w := by kernel_rfl
theorem zero_hdr1 : ∀ n, ∀ v ∈ (Builtin.zeroCells (Value.agg zeroH.vals.toArray).cells n).toList, v.oneCell' = true := fun n v hv => by
  simp only [Builtin.zeroCells, Array.toList_map, List.mem_map] at hv
  obtain ⟨i, _, rfl⟩ := hv
  have h19 : zeroH.vals.toArray.size = 19 := rfl
  have hi : i % 19 < 19 := Nat.mod_lt _ (by omega)
  have hm : zeroH.vals.toArray[i % 19]! ∈ zeroH.vals := by
    rw [getElem!_pos zeroH.vals.toArray (i % 19) (by rw [h19]; exact hi)]
    simp
  exact vals_one zeroH _ hm
/-- a store into the middle of a block of the call's own; the world behind it is a letter -/
theorem wpList_store_midB {P : Program} {ops : Array Oper} {rest : List Oper} {op : Oper} {a : Act} {w : World} {Q : Exit → Act → World → Prop} (hgd : op.guard = none) (ty : TypeId) (x y : Operand) (ho : op.op = .store ty x y)
    (b o : Nat) (vs : List Value) (hx : a.eval x = .pointer (some ⟨b, o, none⟩)) (hy : a.eval y = .agg vs.toArray) (t : TypeId) (cs : List Value) (hb : Blk w b t cs.toArray) (hfit : o + vs.length ≤ cs.length) (hi : (P.info? ty).map (·.size) = some vs.length) (h1 : ∀ v ∈ vs, v.oneCell' = true)
    (h : ∀ w', Blk w' b t (cs.take o ++ vs ++ cs.drop (o + vs.length)).toArray → w.grownBy w' (some b) → wpList P ops Q rest (a.put op.dst undef) w') : wpList P ops Q (op :: rest) a w :=
  wpList_store_mid hgd ty x y ho b o vs.toArray hx hy (blk_there hb (by simpa using hfit)) (by simpa using hi) (all_oneCell_toArray h1) (h _ (Blk.setCells vs o hb hfit) (grownBy_setCells _ _ _ _))
/-- clear(s[i:]) inside a block of the call's own, elements of some cells -/
theorem wpList_clearK {P : Program} {ops : Array Oper} {rest : List Oper} {op : Oper} {a : Act} {w : World} {Q : Exit → Act → World → Prop} (hgd : op.guard = none) (x : Operand) (t : TypeId)
    (ho : op.op = .call { callee := .builtin .clear, args := #[x], argTypes := #[t] }) (e : TypeId) (z : Value) (k : Nat) (ht : P.underlying t = some (.slice e)) (hv : ∀ w, (zeroValue e).run P w = .ok z w) (hz : z.cells.size = k) (h1 : ∀ n, ∀ v ∈ (Builtin.zeroCells z.cells n).toList, v.oneCell' = true)
    (g off n c : Nat) (cs : List Value) (hx : a.eval x = .slice (some ⟨g, off, none⟩) n c) (hb : Blk w g e cs.toArray) (hn : 0 < n) (hfit : off + n * k ≤ cs.length)
    (h : ∀ w' zs, zs.length = n * k → Blk w' g e (cs.take off ++ zs ++ cs.drop (off + n * k)).toArray → w.grownBy w' (some g) → wpList P ops Q rest (a.put op.dst (.tuple #[])) w') : wpList P ops Q (op :: rest) a w := by
  refine wpList_plain hgd fun K hK => ?_
  have hzl : (Builtin.zeroCells z.cells n).toList.length = n * k := by simp [Builtin.zeroCells, hz]
  have hst := run_storeCells_at P g off e (Builtin.zeroCells z.cells n).toList 0 cs.toArray w hb.heap (by simp only [List.size_toArray]; omega) (h1 n)
  simp only [Nat.add_zero] at hst
  obtain ⟨m, rfl⟩ : ∃ m, n = m + 1 := ⟨n - 1, by omega⟩
  unfold Oper.wp execOp
  have hrun : (Builtin.clear_ #[t] op.type #[.slice (some ⟨g, off, none⟩) (m + 1) c]).run P w = .ok (.tuple #[]) (w.setRow g (cs.take off ++ (Builtin.zeroCells z.cells (m + 1)).toList ++ cs.drop (off + (m + 1) * k)).toArray) := by
    generalize hZ : (Builtin.zeroCells z.cells (m + 1)).toList = zs at hst hzl
    simp [Builtin.clear_, run_underlying ht, hv]
    rw [hZ, hst, hzl]
    simp
  simp only [ho, resolve, invoke, builtin, Sem.run_bind, Sem.run_pure, Result.andThen_ok, List.map_toArray, List.map_cons, List.map_nil, hx, hrun]
  exact hK _ _ (h _ _ hzl ⟨setRow_heap w g cs.toArray _ e _ hb.heap⟩ ⟨rfl, rfl, rfl, by simp, fun k _ hk => setRow_other w g k _ (fun e => hk (by simp [e]))⟩)
set_option maxRecDepth 100000 in
set_option maxHeartbeats 4000000 in
theorem hd_Compact (w : World) (g n cap : Nat) (xs : List OHdr) (T : List Value) (hn : n = xs.length) (hblk : Blk w g 31 (cellsK encH xs ++ T).toArray) (hm : n ≤ 1073741824) (hcap : n ≤ cap) :
    Calls Tryd.prog 57 #[.slice (some ⟨g, 0, none⟩) n cap] w fun e w' => ∃ T', e = .returned (.slice (some ⟨g, 0, none⟩) (compactK eqO xs n).length cap) ∧ Blk w' g 31 (cellsK encH (compactK eqO xs n) ++ T').toArray ∧ (cellsK encH (compactK eqO xs n) ++ T').length = (cellsK encH xs ++ T).length ∧ w.grownBy w' (some g) := by
  have HN := Lib.hid hn
  have Hblk := Lib.hid hblk
  clear hn hblk
  by_cases h2 : n < 2
  · have hc : compactK eqO xs n = xs := by
      have := HN.out
      rcases xs with _ | ⟨x, _ | ⟨y, r⟩⟩
      · simp at this; subst this; rfl
      · simp at this; subst this; rfl
      · simp at this; omega
    have hd : decide (n < 2) = true := decide_eq_true h2
    have HC := Lib.hid hc
    clear hc
    go_enter Tryd.func57, Tryd.ntmps57
    go_wp2_with fail
    go_ret
    refine ⟨T, ?_, ?_, ?_, grownBy_refl _ _⟩
    · rw [HC.out, ← HN.out]; rfl
    · rw [HC.out]; exact Hblk.out
    · rw [HC.out]
  · have hd : decide (n < 2) = false := decide_eq_false h2
    go_enter Tryd.func57, Tryd.ntmps57
    go_wp2_with fail
    go_loopw [3] (fun i wr => ∃ k : Nat, k + 1 ≤ n ∧ i = .int .i64 ((k : Int) + 1) ∧ Hid (compactK eqO xs (k + 1) = xs.take (k + 1)) ∧ Below w.heap.size w wr) (fun i _ => n - (intOf i).toNat)
    case atStart => exact ⟨0, by omega, rfl, Lib.hid (by
      obtain ⟨x, hx⟩ : ∃ x, xs[0]? = some x := ⟨_, List.getElem?_eq_getElem (by have := HN.out; omega)⟩
      rw [compactK_no hx rfl, take_snocK hx]; rfl), Below.refl _ _⟩
    case round =>
      obtain ⟨k, hk, rfl, HT, hB⟩ := hrel
      by_cases hlt : k + 1 < n
      · obtain ⟨x, hx⟩ : ∃ x, xs[k]? = some x := ⟨_, List.getElem?_eq_getElem (by have := HN.out; omega)⟩
        obtain ⟨y, hy⟩ : ∃ x, xs[k + 1]? = some x := ⟨_, List.getElem?_eq_getElem (by have := HN.out; omega)⟩
        have hblk := Hblk.out.below hB Hblk.out.lt
        have R1 := Lib.hid (fun w' (q : Below wr.heap.size wr w') => show w'.rangeAt g (k * 19) x.1.vals from rangeK encH_len (hblk.below q hblk.lt) hx)
        have R2 := Lib.hid (fun w' (q : Below wr.heap.size wr w') => show w'.rangeAt g ((k + 1) * 19) y.1.vals from rangeK encH_len (hblk.below q hblk.lt) hy)
        have hk0 : (0 : Int) ≤ (k : Int) := by omega
        have hk1 : (k : Int) + 1 < (n : Int) := by omega
        have hk2 : (0 : Int) ≤ (k : Int) + 1 := by omega
        have hk4 : (k : Int) < (n : Int) := by omega
        have hkw : IntKind.i64.wrap (k : Int) = k := by rw [IntKind.wrap_i64]; omega
        have Hx := Lib.hid hx
        have Hy := Lib.hid hy
        have Hbk := Lib.hid hblk
        have HE := Lib.hid (dupK_eq (eqb := eqO) hx hy)
        have HEQ := Lib.hid (fun w => eql_hdr y.1 x.1 w)
        have HB := Lib.hid hB
        clear hx hy hblk hB
        obtain ⟨bb, hbb⟩ : ∃ bb, bb = eqHB y.1 x.1 := ⟨_, rfl⟩
        rw [← hbb] at HEQ
        have HBB := Lib.hid hbb
        clear hbb
        go_upto_region 6 with fail
        go_cut [25] (fun s wx => s = .bool bb ∧ Below wr.heap.size wr wx)
        case first =>
          as_aux_lemma =>
          refine wp_region_held_drew (S := (fun w' => Below wr.heap.size wr w')) (by kernel_rfl) ?_ (fun hHeld => ?_)
          · (try dsimp only); (first | (with_reducible exact below_step (by assumption) hb1') | (repeat' (first | (with_reducible exact Below.refl _ _) | (with_reducible assumption) | (with_reducible exact Below.size (by assumption)) | (with_reducible refine Below.drew ?_))))
          refine wpAnyH_take (i := 0) (v := ?_) rfl (by kernel_rfl) (by kernel_rfl) (by kernel_rfl) (fun _ _ _ h => h) (Or.inl ⟨by rfl, ?_⟩) (by assumption) ?_
          rotate_left
          · (intro w hSw; (try dsimp only at hSw); go_simp; first | done | with_reducible rfl)
          try simp only [List.getElem_toArray, List.getElem_cons_zero, List.getElem_cons_succ, Act.put, List.setIfInBounds_toArray, List.set_cons_zero, List.set_cons_succ]
          refine wpAnyH_take (i := 1) (v := ?_) rfl (by kernel_rfl) (by kernel_rfl) (by kernel_rfl) (fun _ _ _ h => h) (Or.inl ⟨by rfl, ?_⟩) (by assumption) ?_
          rotate_left
          · (intro w hSw; (try dsimp only at hSw); go_simp; first | done | with_reducible rfl)
          try simp only [List.getElem_toArray, List.getElem_cons_zero, List.getElem_cons_succ, Act.put, List.setIfInBounds_toArray, List.set_cons_zero, List.set_cons_succ]
          refine wpAnyH_take (i := 2) (v := ?_) rfl (by kernel_rfl) (by kernel_rfl) (by kernel_rfl) (fun _ _ _ h => h) (Or.inl ⟨by rfl, ?_⟩) (by assumption) ?_
          rotate_left
          · (intro w hSw; (try dsimp only at hSw); go_simp; first | done | with_reducible rfl)
          try simp only [List.getElem_toArray, List.getElem_cons_zero, List.getElem_cons_succ, Act.put, List.setIfInBounds_toArray, List.set_cons_zero, List.set_cons_succ]
          refine wpAnyH_take (i := 3) (v := _) rfl (by kernel_rfl) (by kernel_rfl) (by kernel_rfl) (fun _ _ _ h => h) (yieldsIf_load_mid (by rfl) _ _ rfl _ _ rfl y.1.vals _ (fun w' q => R2.out w' q) Tryd.underlying31 rfl (by kernel_rfl)) (by assumption) ?_
          try simp only [List.getElem_toArray, List.getElem_cons_zero, List.getElem_cons_succ, Act.put, List.setIfInBounds_toArray, List.set_cons_zero, List.set_cons_succ]
          refine wpAnyH_take (i := 4) (v := ?_) rfl (by kernel_rfl) (by kernel_rfl) (by kernel_rfl) (fun _ _ _ h => h) (Or.inl ⟨by rfl, ?_⟩) (by assumption) ?_
          rotate_left
          · (intro w hSw; (try dsimp only at hSw); go_simp; first | done | with_reducible rfl)
          try simp only [List.getElem_toArray, List.getElem_cons_zero, List.getElem_cons_succ, Act.put, List.setIfInBounds_toArray, List.set_cons_zero, List.set_cons_succ]
          refine wpAnyH_take (i := 5) (v := ?_) rfl (by kernel_rfl) (by kernel_rfl) (by kernel_rfl) (fun _ _ _ h => h) (Or.inl ⟨by rfl, ?_⟩) (by assumption) ?_
          rotate_left
          · (intro w hSw; (try dsimp only at hSw); go_simp; first | done | with_reducible rfl)
          try simp only [List.getElem_toArray, List.getElem_cons_zero, List.getElem_cons_succ, Act.put, List.setIfInBounds_toArray, List.set_cons_zero, List.set_cons_succ]
          refine wpAnyH_take (i := 6) (v := ?_) rfl (by kernel_rfl) (by kernel_rfl) (by kernel_rfl) (fun _ _ _ h => h) (Or.inl ⟨by rfl, ?_⟩) (by assumption) ?_
          rotate_left
          · (intro w hSw; (try dsimp only at hSw); go_simp; first | done | with_reducible rfl)
          try simp only [List.getElem_toArray, List.getElem_cons_zero, List.getElem_cons_succ, Act.put, List.setIfInBounds_toArray, List.set_cons_zero, List.set_cons_succ]
          refine wpAnyH_take (i := 7) (v := ?_) rfl (by kernel_rfl) (by kernel_rfl) (by kernel_rfl) (fun _ _ _ h => h) (Or.inl ⟨by rfl, ?_⟩) (by assumption) ?_
          rotate_left
          · (intro w hSw; (try dsimp only at hSw); go_simp; first | done | with_reducible rfl)
          try simp only [List.getElem_toArray, List.getElem_cons_zero, List.getElem_cons_succ, Act.put, List.setIfInBounds_toArray, List.set_cons_zero, List.set_cons_succ]
          refine wpAnyH_take (i := 8) (v := _) rfl (by kernel_rfl) (by kernel_rfl) (by kernel_rfl) (fun _ _ _ h => h) (yieldsIf_load_mid (by rfl) _ _ rfl _ _ rfl x.1.vals _ (fun w' q => R1.out w' q) Tryd.underlying31 rfl (by kernel_rfl)) (by assumption) ?_
          try simp only [List.getElem_toArray, List.getElem_cons_zero, List.getElem_cons_succ, Act.put, List.setIfInBounds_toArray, List.set_cons_zero, List.set_cons_succ]
          refine wpAnyH_take (i := 9) (v := _) rfl (by kernel_rfl) (by kernel_rfl) (by kernel_rfl) (fun _ _ _ h => h) (yields_cmp (by rfl) .eql _ _ _ rfl y.1 x.1 rfl rfl bb HEQ.out) (by assumption) ?_
          try simp only [List.getElem_toArray, List.getElem_cons_zero, List.getElem_cons_succ, Act.put, List.setIfInBounds_toArray, List.set_cons_zero, List.set_cons_succ]
          refine wpAnyH_done (by kernel_rfl) ?_ _
          go_wp2_with fail
          go_meet
          exact ⟨rfl, by assumption⟩
        case rest =>
        obtain ⟨rfl, hB1⟩ := hcut
        have HB1 := Lib.hid (HB.out.trans (hB1.mono HB.out.size))
        clear hB1
        cases bb
        · go_wp2_with fail
          go_roundw
          case rel => exact ⟨k + 1, by omega, by go_num, Lib.hid (by rw [compactK_no Hy.out (HE.out.trans HBB.out.symm), HT.out, ← take_snocK Hy.out]), HB1.out⟩
          case measure => simp [intOf]; omega
        · go_wp2_with fail
          have HD : Hid (compactK eqO xs (k + 2) = xs.take (k + 1)) := by
            show _ = _
            rw [compactK_yes Hy.out (HE.out.trans HBB.out.symm), HT.out]
          have Hbd := Lib.hid (Hblk.out.below HB1.out Hblk.out.lt)
          have Hgr := Lib.hid (grownBy_ofBelow HB1.out g)
          have hk3 : (k : Int) + 1 ≤ (n : Int) := by omega
          clear HEQ R1 R2 hk4 hkw
          generalize hn2 : n - (k + 1) = n2
          generalize cap - (k + 1) = cap2
          have HN2 : Hid (n = k + 1 + n2) := by show _ = _; omega
          have hn23 : n2 ≤ 1073741824 := by omega
          clear hn2
          go_loopw [3, 5] (fun i j wx => ∃ (p t : Nat) (C : List OHdr), i = .int .i64 p ∧ j = .int .i64 ((t : Int) + 1) ∧ t + 1 ≤ n2 ∧ p ≤ k + 1 + t ∧ Hid (C.length = n ∧ C.take p = compactK eqO xs (k + 2 + t) ∧ C.drop (k + 1 + t) = xs.drop (k + 1 + t)) ∧ Blk wx g 31 (cellsK encH C ++ T).toArray ∧ w.grownBy wx (some g)) (fun i j _ => n2 - (intOf j).toNat)
          case atStart =>
            refine ⟨k + 1, 0, xs, by push_cast; rfl, rfl, by have := HN2.out; omega, by omega, Lib.hid ⟨HN.out.symm, by rw [HD.out], rfl⟩, Hbd.out, Hgr.out⟩
          case round =>
            obtain ⟨p, t, C, rfl, rfl, ht, hp, HC, hbx, hgx⟩ := hrel
            by_cases hlt2 : t + 1 < n2
            · obtain ⟨x1, hx⟩ : ∃ x, xs[k + 1 + t]? = some x := ⟨_, List.getElem?_eq_getElem (by have := HN.out; have := HN2.out; omega)⟩
              obtain ⟨y1, hy⟩ : ∃ x, xs[k + 1 + t + 1]? = some x := ⟨_, List.getElem?_eq_getElem (by have := HN.out; have := HN2.out; omega)⟩
              have hdr : ∀ i, C[k + 1 + t + i]? = xs[k + 1 + t + i]? := fun i => by rw [← List.getElem?_drop, ← List.getElem?_drop, HC.out.2.2]
              have hx1 : C[k + 1 + t]? = _ := (hdr 0).trans hx
              have hy1 : C[k + 1 + t + 1]? = _ := (hdr 1).trans hy
              clear hdr
              have R1 := Lib.hid (fun w' (q : Below wr.heap.size wr w') => show w'.rangeAt g ((k + 1) * 19 + t * 19) x1.1.vals by rw [show (k + 1) * 19 + t * 19 = (k + 1 + t) * 19 by omega]; exact rangeK encH_len (hbx.below q hbx.lt) hx1)
              have R2 := Lib.hid (fun w' (q : Below wr.heap.size wr w') => show w'.rangeAt g ((k + 1) * 19 + (t + 1) * 19) y1.1.vals by rw [show (k + 1) * 19 + (t + 1) * 19 = (k + 1 + t + 1) * 19 by omega]; exact rangeK encH_len (hbx.below q hbx.lt) hy1)
              have ht0 : (0 : Int) ≤ (t : Int) := by omega
              have ht1 : (t : Int) + 1 < (n2 : Int) := by omega
              have ht2 : (0 : Int) ≤ (t : Int) + 1 := by omega
              have ht4 : (t : Int) < (n2 : Int) := by omega
              have htw : IntKind.i64.wrap (t : Int) = t := by rw [IntKind.wrap_i64]; omega
              have Hx1 := Lib.hid hx
              have Hy1 := Lib.hid hy
              have Hbx := Lib.hid hbx
              have Hgx := Lib.hid hgx
              have HEX := Lib.hid (dupK_eq (eqb := eqO) hx hy)
              have HEQ := Lib.hid (fun w => neq_hdr y1.1 x1.1 w)
              clear hx hy hx1 hy1 hbx hgx
              obtain ⟨bb, hbb⟩ : ∃ bb, bb = eqHB y1.1 x1.1 := ⟨_, rfl⟩
              rw [← hbb] at HEQ
              have HBX := Lib.hid hbb
              clear hbb
              go_upto_region 11 with fail
              go_cut [44] (fun s wx => s = .bool (!bb) ∧ Below wr.heap.size wr wx)
              case first =>
                as_aux_lemma =>
                refine wp_region_held_drew (S := (fun w' => Below wr.heap.size wr w')) (by kernel_rfl) ?_ (fun hHeld => ?_)
                · (try dsimp only); (first | (with_reducible exact below_step (by assumption) hb1') | (repeat' (first | (with_reducible exact Below.refl _ _) | (with_reducible assumption) | (with_reducible exact Below.size (by assumption)) | (with_reducible refine Below.drew ?_))))
                refine wpAnyH_take (i := 0) (v := ?_) rfl (by kernel_rfl) (by kernel_rfl) (by kernel_rfl) (fun _ _ _ h => h) (Or.inl ⟨by rfl, ?_⟩) (by assumption) ?_
                rotate_left
                · (intro w hSw; (try dsimp only at hSw); go_simp; first | done | with_reducible rfl)
                try simp only [List.getElem_toArray, List.getElem_cons_zero, List.getElem_cons_succ, Act.put, List.setIfInBounds_toArray, List.set_cons_zero, List.set_cons_succ]
                refine wpAnyH_take (i := 1) (v := ?_) rfl (by kernel_rfl) (by kernel_rfl) (by kernel_rfl) (fun _ _ _ h => h) (Or.inl ⟨by rfl, ?_⟩) (by assumption) ?_
                rotate_left
                · (intro w hSw; (try dsimp only at hSw); go_simp; first | done | with_reducible rfl)
                try simp only [List.getElem_toArray, List.getElem_cons_zero, List.getElem_cons_succ, Act.put, List.setIfInBounds_toArray, List.set_cons_zero, List.set_cons_succ]
                refine wpAnyH_take (i := 2) (v := ?_) rfl (by kernel_rfl) (by kernel_rfl) (by kernel_rfl) (fun _ _ _ h => h) (Or.inl ⟨by rfl, ?_⟩) (by assumption) ?_
                rotate_left
                · (intro w hSw; (try dsimp only at hSw); go_simp; first | done | with_reducible rfl)
                try simp only [List.getElem_toArray, List.getElem_cons_zero, List.getElem_cons_succ, Act.put, List.setIfInBounds_toArray, List.set_cons_zero, List.set_cons_succ]
                refine wpAnyH_take (i := 3) (v := _) rfl (by kernel_rfl) (by kernel_rfl) (by kernel_rfl) (fun _ _ _ h => h) (yieldsIf_load_mid (by rfl) _ _ rfl _ _ rfl y1.1.vals _ (fun w' q => R2.out w' q) Tryd.underlying31 rfl (by kernel_rfl)) (by assumption) ?_
                try simp only [List.getElem_toArray, List.getElem_cons_zero, List.getElem_cons_succ, Act.put, List.setIfInBounds_toArray, List.set_cons_zero, List.set_cons_succ]
                refine wpAnyH_take (i := 4) (v := ?_) rfl (by kernel_rfl) (by kernel_rfl) (by kernel_rfl) (fun _ _ _ h => h) (Or.inl ⟨by rfl, ?_⟩) (by assumption) ?_
                rotate_left
                · (intro w hSw; (try dsimp only at hSw); go_simp; first | done | with_reducible rfl)
                try simp only [List.getElem_toArray, List.getElem_cons_zero, List.getElem_cons_succ, Act.put, List.setIfInBounds_toArray, List.set_cons_zero, List.set_cons_succ]
                refine wpAnyH_take (i := 5) (v := ?_) rfl (by kernel_rfl) (by kernel_rfl) (by kernel_rfl) (fun _ _ _ h => h) (Or.inl ⟨by rfl, ?_⟩) (by assumption) ?_
                rotate_left
                · (intro w hSw; (try dsimp only at hSw); go_simp; first | done | with_reducible rfl)
                try simp only [List.getElem_toArray, List.getElem_cons_zero, List.getElem_cons_succ, Act.put, List.setIfInBounds_toArray, List.set_cons_zero, List.set_cons_succ]
                refine wpAnyH_take (i := 6) (v := ?_) rfl (by kernel_rfl) (by kernel_rfl) (by kernel_rfl) (fun _ _ _ h => h) (Or.inl ⟨by rfl, ?_⟩) (by assumption) ?_
                rotate_left
                · (intro w hSw; (try dsimp only at hSw); go_simp; first | done | with_reducible rfl)
                try simp only [List.getElem_toArray, List.getElem_cons_zero, List.getElem_cons_succ, Act.put, List.setIfInBounds_toArray, List.set_cons_zero, List.set_cons_succ]
                refine wpAnyH_take (i := 7) (v := ?_) rfl (by kernel_rfl) (by kernel_rfl) (by kernel_rfl) (fun _ _ _ h => h) (Or.inl ⟨by rfl, ?_⟩) (by assumption) ?_
                rotate_left
                · (intro w hSw; (try dsimp only at hSw); go_simp; first | done | with_reducible rfl)
                try simp only [List.getElem_toArray, List.getElem_cons_zero, List.getElem_cons_succ, Act.put, List.setIfInBounds_toArray, List.set_cons_zero, List.set_cons_succ]
                refine wpAnyH_take (i := 8) (v := _) rfl (by kernel_rfl) (by kernel_rfl) (by kernel_rfl) (fun _ _ _ h => h) (yieldsIf_load_mid (by rfl) _ _ rfl _ _ rfl x1.1.vals _ (fun w' q => R1.out w' q) Tryd.underlying31 rfl (by kernel_rfl)) (by assumption) ?_
                try simp only [List.getElem_toArray, List.getElem_cons_zero, List.getElem_cons_succ, Act.put, List.setIfInBounds_toArray, List.set_cons_zero, List.set_cons_succ]
                refine wpAnyH_take (i := 9) (v := _) rfl (by kernel_rfl) (by kernel_rfl) (by kernel_rfl) (fun _ _ _ h => h) (yields_cmp (by rfl) .neq _ _ _ rfl y1.1 x1.1 rfl rfl (!bb) HEQ.out) (by assumption) ?_
                try simp only [List.getElem_toArray, List.getElem_cons_zero, List.getElem_cons_succ, Act.put, List.setIfInBounds_toArray, List.set_cons_zero, List.set_cons_succ]
                refine wpAnyH_done (by kernel_rfl) ?_ _
                go_wp2_with fail
                go_meet
                exact ⟨rfl, by assumption⟩
              case rest =>
              obtain ⟨rfl, hB2⟩ := hcut
              have HB2 := Lib.hid hB2
              have HRG := Lib.hid (R2.out _ hB2)
              have Hbc := Lib.hid (Hbx.out.below hB2 Hbx.out.lt)
              have Hgc := Lib.hid (grownBy_step Hgx.out hB2)
              clear hB2 R1 R2
              cases bb
              · have hfit : Hid (p * 19 + y1.1.vals.length ≤ (cellsK encH C ++ T).length) := by show p * 19 + 19 ≤ _; rw [List.length_append, cellsK_len encH_len]; have := HC.out.1; have := HN2.out; omega
                have hp0 : (0 : Int) ≤ (p : Int) := by omega
                have hp1 : (p : Int) < (n : Int) := by have := HN2.out; omega
                go_wp2_with (first
                  | (refine wpList_load_mid rfl 31 (.tmp 49) rfl g ((k + 1) * 19 + (t + 1) * 19) rfl y1.1.vals _ HRG.out Tryd.underlying31 rfl (by kernel_rfl) ?_)
                  | (refine wpList_store_midB rfl 31 (.tmp 51) (.tmp 50) rfl g (p * 19) y1.1.vals rfl rfl 31 _ Hbc.out hfit.out (by kernel_rfl) (vals_one y1.1) ?_; intro W3 hz hg; have HZ3 := Lib.hid hz; have HG3 := Lib.hid hg; clear hz hg)
                  | fail)
                have hce := cellsK_set (T := T) (xs := C) (i := p) encH_len (by have := HC.out.1; have := HN2.out; omega) y1
                have hbz := HZ3.out
                rw [show p * 19 + y1.1.vals.length = p * 19 + 19 from rfl, show y1.1.vals = encH y1 from rfl, hce] at hbz
                go_roundw
                case rel =>
                  refine ⟨p + 1, t + 1, C.set p y1, by push_cast; rfl, by push_cast; rfl, by omega, by omega, Lib.hid ⟨by rw [List.length_set]; exact HC.out.1, ?_, ?_⟩, hbz, grownBy_trans Hgc.out HG3.out⟩
                  · have hpl : p < C.length := by have := HC.out.1; have := HN2.out; omega
                    rw [show k + 2 + (t + 1) = k + 1 + t + 1 + 1 by omega, compactK_no Hy1.out (HEX.out.trans HBX.out.symm), take_snocK (x := y1) (by rw [List.getElem?_set_self hpl]), List.take_set_of_le (Nat.le_refl _), HC.out.2.1, show k + 2 + t = k + 1 + t + 1 by omega]
                  · rw [List.drop_set_of_lt (by omega), show k + 1 + (t + 1) = (k + 1 + t) + 1 by omega, ← List.drop_drop, HC.out.2.2, List.drop_drop]
                case measure => simp [intOf]; omega
              · go_wp2_with fail
                go_roundw
                case rel =>
                  refine ⟨p, t + 1, C, rfl, by push_cast; rfl, by omega, by omega, Lib.hid ⟨HC.out.1, ?_, ?_⟩, Hbc.out, Hgc.out⟩
                  · rw [show k + 2 + (t + 1) = k + 1 + t + 1 + 1 by omega, compactK_yes Hy1.out (HEX.out.trans HBX.out.symm), HC.out.2.1, show k + 2 + t = k + 1 + t + 1 by omega]
                  · rw [show k + 1 + (t + 1) = (k + 1 + t) + 1 by omega, ← List.drop_drop, HC.out.2.2, List.drop_drop]
                case measure => simp [intOf]; omega
            · have hd2 : decide ((t : Int) + 1 < (n2 : Int)) = false := decide_eq_false (by omega)
              have hp0 : (0 : Int) ≤ (p : Int) := by omega
              have hp1 : (p : Int) ≤ (n : Int) := by have := HN2.out; omega
              have hp2 : p ≤ n := by omega
              have hpc : p < cap := by have := HN2.out; omega
              have Hbx := Lib.hid hbx
              have Hgx := Lib.hid hgx
              have Hlt2 := Lib.hid hlt2
              clear hbx hgx
              have hnp : Hid (0 < n - p) := by show _ < _; have := HN2.out; have := Hlt2.out; omega
              have hfit : Hid (p * 19 + (n - p) * 19 ≤ (cellsK encH C ++ T).length) := by show _ ≤ _; rw [List.length_append, cellsK_len encH_len]; have := HC.out.1; have := HN2.out; omega
              go_wp2_with (first
                | (refine wpList_clearK rfl (.tmp 56) 47 rfl 31 (.agg zeroH.vals.toArray) 19 Tryd.underlying47 zero_hdr rfl zero_hdr1 g (p * 19) (n - p) (cap - p) _ (by rfl) Hbx.out hnp.out hfit.out ?_; intro W1 zs hzl hbz hgz; have HZ := Lib.hid hzl; have Hbz := Lib.hid hbz; have Hgz := Lib.hid (grownBy_trans Hgx.out hgz); clear hzl hbz hgz)
                | fail)
              go_ret
              have hlt := Hlt2.out
              have h2 := HN2.out
              have hnn : n = k + 2 + t := by omega
              have hcp : compactK eqO xs n = C.take p := by rw [hnn, HC.out.2.1]
              have hl : (C.take p).length = p := by rw [List.length_take]; have := HC.out.1; omega
              refine ⟨zs ++ T, ?_, ?_, ?_, Hgz.out⟩
              · rw [hcp, hl]; rfl
              · have e := Hbz.out
                have e1 : (cellsK encH C ++ T).take (p * 19) = cellsK encH (C.take p) := by
                  rw [List.take_append_of_le_length (by rw [cellsK_len encH_len]; have := HC.out.1; omega)]
                  conv => lhs; rw [← List.take_append_drop p C, cellsK_append]
                  rw [← hl, show (C.take p).length * 19 = (cellsK encH (C.take p)).length by rw [cellsK_len encH_len], hl, List.take_left]
                have e2 : (cellsK encH C ++ T).drop (p * 19 + (n - p) * 19) = T := by
                  rw [show p * 19 + (n - p) * 19 = (cellsK encH C).length by rw [cellsK_len encH_len]; have := HC.out.1; omega, List.drop_left]
                rw [e1, e2, List.append_assoc] at e
                rw [hcp]
                exact e
              · rw [hcp, List.length_append, List.length_append, List.length_append, cellsK_len encH_len, cellsK_len encH_len, hl, HZ.out, ← HN.out]
                omega
      · have hkn : k + 1 = n := by omega
        subst hkn
        go_wp2_with fail
        go_ret
        have hcp : compactK eqO xs (k + 1) = xs := by rw [HT.out, HN.out, List.take_length]
        refine ⟨T, ?_, ?_, ?_, grownBy_ofBelow hB g⟩
        · rw [hcp, ← HN.out]; rfl
        · rw [hcp]; exact Hblk.out.below hB Hblk.out.lt
        · rw [hcp]
end Go.Proofs.YtjeligbgcofaeaaDoor
