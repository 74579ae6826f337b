/- SortFunc and Compact at a slice of the call's own; pset.Of. -/
import Derived.Test.YthiodgnklfbmjaaPsF
namespace Go.Proofs.Ythiodgnklfbmjaa
open Go.RowKit Go.Sort Go.Shelf
set_option linter.unusedVariables false

theorem pgroups_eq {w : World} {F : Nat → Prop} : ∀ {cells : List Value} {xs : List Pfx}, Groups pfxR w F cells xs → cells = pcells xs ∧ ∀ x ∈ xs, x.Fits
  | _, [], rfl => ⟨rfl, by simp⟩
  | _, x :: r, ⟨cs, rest, he, ⟨hc, hf⟩, hg⟩ => by
    subst he
    subst hc
    obtain ⟨rfl, h2⟩ := pgroups_eq hg
    exact ⟨rfl, fun y hy => (List.mem_cons.1 hy).elim (fun h => h ▸ hf) (h2 y)⟩
theorem pgroups_mk {w : World} {F : Nat → Prop} : ∀ {xs : List Pfx}, (∀ x ∈ xs, x.Fits) → Groups pfxR w F (pcells xs) xs
  | [], _ => rfl
  | x :: r, h => ⟨pfxE x, pcells r, rfl, ⟨rfl, h x List.mem_cons_self⟩, pgroups_mk fun y hy => h y (List.mem_cons_of_mem _ hy)⟩
theorem own_blkP {w : World} {F : Nat → Prop} {base n c : Nat} {ad : Addr} {xs : List Pfx} (h : ownR 35 2 pfxR w F base (.slice (some ad) n c) xs) :
    ∃ g T, ad = ⟨g, 0, none⟩ ∧ base ≤ g ∧ ¬ F g ∧ Blk w g 35 (pcells xs ++ T).toArray ∧ n = xs.length ∧ n ≤ c ∧ c ≤ maxLen ∧ (pcells xs ++ T).length = c * 2 ∧ ∀ x ∈ xs, x.Fits := by
  obtain ⟨cells, h1, h2, h3⟩ := h
  obtain ⟨rfl, hf⟩ := pgroups_eq h2
  rcases h1.2 with ⟨hv, hn⟩ | ⟨g, cap, cur, hv, hb, hg, hc, hm, hs, ht⟩
  · cases hv
  · cases hv
    obtain ⟨T, hT, _, _, _, hl, _⟩ := ownsRow_blk h1
    exact ⟨g, T, rfl, hb, h3 g rfl, hT, rfl, hc, hm, hl, hf⟩
theorem own_mkP {w : World} {F : Nat → Prop} {base g n c : Nat} {xs : List Pfx} {T : List Value} (hb : base ≤ g) (hF : ¬ F g) (h : Blk w g 35 (pcells xs ++ T).toArray) (hn : n = xs.length) (hc : n ≤ c) (hm : c ≤ maxLen) (hl : (pcells xs ++ T).length = c * 2) (hf : ∀ x ∈ xs, x.Fits) :
    ownR 35 2 pfxR w F base (.slice (some ⟨g, 0, none⟩) n c) xs := by
  subst hn
  exact ⟨pcells xs, blk_ownsRow h hb hc hm hl (pcells_len xs), pgroups_mk hf, fun k hk => by cases hk; exact hF⟩
theorem own_nilP {w : World} {F : Nat → Prop} {base n c : Nat} {xs : List Pfx} (h : ownR 35 2 pfxR w F base (.slice none n c) xs) : xs = [] ∧ n = 0 ∧ c = 0 := by
  obtain ⟨cells, h1, h2, h3⟩ := h
  rcases h1.2 with ⟨hv, hn⟩ | ⟨g, cap, cur, hv, hb, hg, hc, hm, hs, ht⟩
  · cases hv
    exact ⟨List.eq_nil_of_length_eq_zero hn, rfl, rfl⟩
  · cases hv
theorem grownBy_self (w : World) (r : Option Nat) : w.grownBy w r := ⟨rfl, rfl, rfl, Nat.le_refl _, fun _ _ _ => rfl⟩

theorem own_Sort (w : World) (F : Nat → Prop) (base n c : Nat) (A : Option Addr) (xs : List Pfx) (h : ownR 35 2 pfxR w F base (.slice A n c) xs) (hn : n ≤ 1073741824) :
    Calls Try.prog 34 #[.slice A n c, .func (.func 13) #[] #[]] w fun e w' => e = .returned (.tuple #[]) ∧ ownR 35 2 pfxR w' F base (.slice A n c) (sortL xs) ∧ w.grownBy w' (Value.ownBlock (.slice A n c)) := by
  cases A with
  | none =>
    obtain ⟨rfl, rfl, rfl⟩ := own_nilP h
    have hS := AnyF.slices_SortFunc_none (P := Try.prog) (ρ := Try.laySort_ren) { Try.laySort with } none 0 (.func (.func 13) #[] #[]) w
    change Calls Try.prog 34 _ _ _ at hS
    refine hS.mono ?_
    rintro e w' ⟨rfl, rfl⟩
    exact ⟨rfl, by simpa [sortL] using h, grownBy_self _ _⟩
  | some ad =>
    obtain ⟨g, T, rfl, hb, hF, hblk, hxn, hc, hm, hl, hf⟩ := own_blkP h
    refine (pfx_Sort w g n c xs T hxn hblk hn).mono ?_
    rintro e w' ⟨rfl, h1, h2⟩
    exact ⟨rfl, own_mkP hb hF h1 (by rw [sortL_len]; exact hxn) hc hm (by rw [List.length_append, pcells_len, sortL_len, ← hl, List.length_append, pcells_len]) (fun x hx => hf x ((sortL_perm xs).mem_iff.1 hx)), h2⟩

theorem pfx_CompactNil (w : World) :
    Calls Try.prog 35 #[.slice none 0 0] w fun e w' => e = .returned (.slice none 0 0) ∧ w' = w := by
  go_enter Try.func35, Try.ntmps35
  go_wp2_with fail
  go_ret
  exact ⟨rfl, rfl⟩
theorem compactN_fits {xs : List Pfx} (hf : ∀ x ∈ xs, x.Fits) : ∀ j, ∀ x ∈ compactN xs j, x.Fits
  | 0, x, hx => by simp [compactN] at hx
  | j + 1, x, hx => by
    unfold compactN at hx
    rw [List.mem_append] at hx
    rcases hx with hx | hx
    · exact compactN_fits hf j x hx
    · split at hx
      · rename_i y hy
        split at hx
        · simp at hx
        · rw [List.mem_singleton] at hx
          subst hx
          exact hf _ (List.mem_of_getElem? hy)
      · simp at hx
theorem own_Compact (w : World) (F : Nat → Prop) (base n c : Nat) (A : Option Addr) (xs : List Pfx) (h : ownR 35 2 pfxR w F base (.slice A n c) xs) (hn : n ≤ 1073741824) :
    Calls Try.prog 35 #[.slice A n c] w fun e w' => e = .returned (.slice A (compactN xs n).length c) ∧ ownR 35 2 pfxR w' F base (.slice A (compactN xs n).length c) (compactN xs n) ∧ w.grownBy w' (Value.ownBlock (.slice A n c)) := by
  cases A with
  | none =>
    obtain ⟨rfl, rfl, rfl⟩ := own_nilP h
    refine (pfx_CompactNil w).mono ?_
    rintro e w' ⟨rfl, rfl⟩
    exact ⟨rfl, h, grownBy_self _ _⟩
  | some ad =>
    obtain ⟨g, T, rfl, hb, hF, hblk, hxn, hc, hm, hl, hf⟩ := own_blkP h
    refine (pfx_Compact w g n c xs T hxn hblk hn hc).mono ?_
    rintro e w' ⟨T', rfl, h1, h2, h3⟩
    exact ⟨rfl, own_mkP hb hF h1 rfl (Nat.le_trans (compactN_le xs n) hc) hm (by rw [h2, hl]) (compactN_fits hf n), h3⟩

def ofE (xs : List Pfx) : Int := if 16384 < xs.length then 3 else if xs.all Pfx.good = true then (if 4096 < (compactN (sortL xs) xs.length).length then 3 else 0) else 1
def ofL (xs : List Pfx) : List Pfx := if ofE xs = 0 then compactN (sortL xs) xs.length else []
def OfPost (w : World) (F : Nat → Prop) (xs : List Pfx) (e : Ending) (w' : World) : Prop := ∃ A' m c' F', e = .returned (.tuple #[.agg #[.slice A' m c'], .int .i64 (ofE xs)]) ∧ Grew w F w' F' ∧ listR 2 pfxR w' F' [.slice A' m c'] (ofL xs)

theorem results_cell_row_tmp {P : Program} {fn : Func} {p u : Tmp} {ty : TypeId} (h : fn.results = #[.cell p ty, .tmp u]) (tmps : Array Value) (w : World) (g : Nat) (t : TypeId) (cs : Array Value) (fr : Nat × Nat) (d : TypeDesc)
    (hp : tmps.getD p undef = .pointer (some ⟨g, 0, none⟩)) (hg : w.heap[g]? = some (.cells cs t fr))
    (hu : P.underlying ty = some d) (hd : (match d with | .struct _ | .array _ _ => true | _ => false) = true) (hi : (P.info? ty).map (·.size) = some cs.size) :
    (results fn tmps).run P w = .ok (.tuple #[.agg cs, tmps.getD u undef]) w := by
  rw [results_cell_tmp h, hp]
  simp [asAddr, run_loadVar_row w g t ty cs fr d hg hu hd hi]
theorem own_atP {w : World} {F : Nat → Prop} {base n c : Nat} {A : Option Addr} {xs : List Pfx} (h : ownR 35 2 pfxR w F base (.slice A n c) xs) {k : Nat} (hk : k < n) :
    ∃ a l g, A = some ⟨g, 0, none⟩ ∧ xs[k]? = some ⟨a, l⟩ ∧ (Pfx.mk a l).Fits ∧ w.cell? ⟨g, k * 2, none⟩ = some (.int .u32 a) ∧ w.cell? ⟨g, k * 2 + 1, none⟩ = some (.int .i64 l) := by
  cases A with
  | none =>
    obtain ⟨rfl, rfl, rfl⟩ := own_nilP h
    omega
  | some ad =>
    obtain ⟨g, T, rfl, hb, hF, hblk, hxn, hc, hm, hl, hf⟩ := own_blkP h
    obtain ⟨⟨a, l⟩, hx⟩ : ∃ x, xs[k]? = some x := ⟨_, List.getElem?_eq_getElem (by omega)⟩
    exact ⟨a, l, g, rfl, hx, hf _ (List.mem_of_getElem? hx), blk_at hblk hx⟩
theorem list_nilP {w : World} {F : Nat → Prop} : listR 2 pfxR w F [.slice none 0 0] ([] : List Pfx) := listR.nil
theorem err_if {b : Bool} : ((if b = true then (0 : Int) else 1) != 0) = !b := by cases b <;> rfl

theorem below_grownO {a w w' : World} {r : Option Nat} (h : Below a.heap.size a w) (k : w.grownBy w' r) (hg : ∀ g, r = some g → a.heap.size ≤ g) : Below a.heap.size a w' :=
  h.trans ⟨k.os, k.tape, k.output, k.size, fun i hi => k.block i (Nat.lt_of_lt_of_le hi h.size) (fun e => by have := hg i e.symm; omega)⟩
theorem Blk.grownO {w w' : World} {g : Nat} {r : Option Nat} {t : TypeId} {cs : Array Value} (h : Blk w g t cs) (k : w.grownBy w' r) (hg : ∀ g', r = some g' → g < g') : Blk w' g t cs :=
  ⟨(k.block g h.lt (fun e => by have := hg g e.symm; omega)).trans h.heap⟩

set_option maxRecDepth 100000 in
set_option maxHeartbeats 4000000 in
theorem set_Of (w : World) (F : Nat → Prop) (A : Option Addr) (n c : Nat) (xs : List Pfx) (hl : listR 2 pfxR w F [.slice A n c] xs) (hF : InF F w) :
    Calls Try.prog 16 #[.slice A n c] w (OfPost w F xs) := by
  have hn63 : n ≤ 9223372036854775807 := by have := hl.len; unfold maxLen at this; omega
  have HN := Lib.hid hl.len.1
  have Hl := Lib.hid hl
  clear hl
  by_cases h16 : 16384 < n
  · have hd : decide ((n : Int) > 16384) = true := decide_eq_true (by omega)
    have HE : Hid (ofE xs = 3) := by show _ = _; unfold ofE; rw [if_pos (by have := HN.out; omega)]
    go_enter Try.func16, Try.ntmps16
    go_wp2_with fail
    have hblk : Blk (w.alloc (.cells #[.slice none 0 0] 26)) w.heap.size 26 #[.slice none 0 0] := Blk.new w 26 #[.slice none 0 0]
    refine bodyPost_ret (results_cell_row_tmp rfl _ _ w.heap.size 26 _ (0, 0) _ rfl hblk.heap Try.underlying26 rfl rfl) rfl ?_
    refine ⟨none, 0, 0, F, ?_, (Grew.refl hF).alloc _, ?_⟩
    · rw [HE.out]; rfl
    · rw [show ofL xs = [] by unfold ofL; rw [HE.out]; rfl]
      exact listR.nil
  · have hd : decide ((n : Int) > 16384) = false := decide_eq_false (by omega)
    have hn14 : n ≤ 16384 := by omega
    have hnn : n ≤ 1073741824 := by omega
    have hb0 : Hid (Blk (w.alloc (.cells #[.slice none 0 0] 26)) w.heap.size 26 #[.slice none 0 0]) := Lib.hid (Blk.new w 26 #[.slice none 0 0])
    have Hg0 := Lib.hid ((Below.refl w.heap.size w).alloc (Nat.le_refl _) (.cells #[.slice none 0 0] 26))
    go_enter Try.func16, Try.ntmps16
    go_wp2_with fail
    refine (pfx_Clone _ F A n c xs ((listR_ok pfxR_ok).below Hl.out Hg0.out hF) (hF.below Hg0.out) hnn).mono ?_
    rintro e w2 ⟨v, rfl, hv, hb2⟩
    obtain ⟨A1, c1, rfl⟩ := hv.form_n HN.out.symm
    have Hv := Lib.hid hv
    have HB2 := Lib.hid (below_step Hg0.out hb2)
    have Hb2 := Lib.hid (hb0.out.below hb2 hb0.out.lt)
    have hF2 := Lib.hid (hF.below HB2.out)
    clear hv hb2 hb0 Hg0
    go_wp2_with fail
    go_loopw [16] (fun i wr => ∃ k : Nat, k ≤ n ∧ i = .int .i64 k ∧ Hid ((xs.take k).all Pfx.good = true) ∧ Below w2.heap.size w2 wr) (fun i _ => n - (intOf i).toNat)
    case atStart => exact ⟨0, Nat.zero_le _, rfl, Lib.hid (by simp), Below.refl _ _⟩
    case round =>
      obtain ⟨k, hk, rfl, HT, hB⟩ := hrel
      have Hown := Lib.hid (Hv.out.below pfxR_ok hB hF2.out)
      by_cases hlt : k < n
      · obtain ⟨a, l, g, rfl, hx, hf, c1, c2⟩ := own_atP Hown.out hlt
        have hk0 : (0 : Int) ≤ (k : Int) := by omega
        have hk1 : (k : Int) < (n : Int) := by omega
        have Hx := Lib.hid hx
        obtain ⟨b, hb⟩ : ∃ b, b = (Pfx.mk a l).good := ⟨_, rfl⟩
        have hc := fun W => ip_Check ⟨a, l⟩ W hf
        rw [← hb] at hc
        have Hc := Lib.hid hc
        have HG := Lib.hid hb
        clear hx hf hb hc
        go_wp2_with fail
        refine (Hc.out _).mono ?_
        rintro e w3 ⟨rfl, hb3⟩
        have Hb3 := Lib.hid (below_step (hB.alloc hB.size (.cells #[.int .u32 a, .int .i64 l] 35)) hb3)
        clear hb3
        cases b
        · have HE : Hid (ofE xs = 1) := by
            show _ = _
            have h1 : ¬ xs.all Pfx.good = true := fun h => by
              have := List.all_eq_true.1 h _ (List.mem_of_getElem? Hx.out)
              rw [← HG.out] at this
              cases this
            unfold ofE
            rw [if_neg (by rw [← HN.out]; omega), if_neg h1]
          have hblk := Hb2.out.below Hb3.out Hb2.out.lt
          have c3 := hblk.cell 0
          have c4 := hblk.free 0
          have Hblk : Hid (Blk (w3.setCell ⟨w.heap.size, 0, none⟩ (.slice none 0 0)) w.heap.size 26 #[.slice none 0 0]) := Lib.hid (hblk.set_ (cs := [_]) 0 (.slice none 0 0))
          clear hblk
          go_wp2_with fail
          refine bodyPost_ret (results_cell_row_tmp rfl _ _ w.heap.size 26 _ (0, 0) _ rfl Hblk.out.heap Try.underlying26 rfl rfl) rfl ?_
          refine ⟨none, 0, 0, F, ?_, ⟨?_, fun _ h => h, fun _ h => .inl h, ?_⟩, ?_⟩
          · rw [HE.out]; rfl
          · exact below_grown (HB2.out.trans (Hb3.out.mono HB2.out.size)) (grownBy_setCell _ _ _ _) (Nat.le_refl _)
          · exact hF.mono (below_grown (HB2.out.trans (Hb3.out.mono HB2.out.size)) (grownBy_setCell _ _ _ _) (Nat.le_refl _)).size
          · rw [show ofL xs = [] by unfold ofL; rw [HE.out]; rfl]
            exact listR.nil
        · go_wp2_with fail
          go_roundw
          case rel => exact ⟨k + 1, by omega, by go_num, Lib.hid (all_take Hx.out HT.out HG.out.symm), Hb3.out⟩
          case measure => simp [intOf]; omega
      · have hall : Hid (xs.all Pfx.good = true) := Lib.hid (all_whole (by rw [← HN.out]; omega) HT.out)
        go_wp2_with fail
        refine (own_Sort _ F _ n _ _ xs Hown.out hnn).mono ?_
        rintro e w3 ⟨rfl, hs, hgs⟩
        obtain ⟨L, hL⟩ : ∃ L, L = compactN (sortL xs) n := ⟨_, rfl⟩
        have hbase : Hid (∀ g, Value.ownBlock (.slice A1 n c1) = some g → w.heap.size < g) := Lib.hid fun g hg => by
          have := (Hown.out.lt g hg).1
          simp only [World.size_alloc] at this
          omega
        have Hb3 := Lib.hid ((Hb2.out.below hB Hb2.out.lt).grownO hgs hbase.out)
        have HB3 := Lib.hid (below_grownO (HB2.out.trans (hB.mono HB2.out.size)) hgs fun g hg => Nat.le_of_lt (hbase.out g hg))
        have hcc := own_Compact w3 F _ n _ _ _ hs hnn
        rw [← hL] at hcc
        have Hcc := Lib.hid hcc
        have HLe : Hid (L = compactN (sortL xs) xs.length) := by show _ = _; rw [hL, ← HN.out]
        clear hs hgs hL hcc
        go_wp2_with fail
        refine Hcc.out.mono ?_
        rintro e w4 ⟨rfl, hz, hgz⟩
        have Hb4 := Lib.hid (Hb3.out.grownO hgz hbase.out)
        have HB4 := Lib.hid (below_grownO HB3.out hgz fun g hg => Nat.le_of_lt (hbase.out g hg))
        have Hz := Lib.hid hz
        have hm : L.length ≤ 16384 := by
          have h1 := compactN_le (sortL xs) xs.length
          rw [← HLe.out] at h1
          have := HN.out
          omega
        obtain ⟨m, hme⟩ : ∃ m, m = L.length := ⟨_, rfl⟩
        rw [← hme] at hm
        have Hm := Lib.hid hme
        have c3 := Hb4.out.cell 0
        have c4 := Hb4.out.free 0
        rw [← hme]
        clear hz hgz hme
        have hret : ∀ v, Hid (Blk (w4.setCell ⟨w.heap.size, 0, none⟩ v) w.heap.size 26 #[v]) := fun v => Lib.hid (Hb4.out.set_ (cs := [_]) 0 v)
        have hbel : ∀ v, Hid (Below w.heap.size w (w4.setCell ⟨w.heap.size, 0, none⟩ v)) := fun v => Lib.hid (below_grown HB4.out (grownBy_setCell _ _ _ _) (Nat.le_refl _))
        by_cases h40 : 4096 < m
        · have hd4 : decide ((m : Int) > 4096) = true := decide_eq_true (by omega)
          have HE : Hid (ofE xs = 3) := by
            show _ = _
            unfold ofE
            rw [if_neg (by rw [← HN.out]; omega), if_pos hall.out, if_pos (by rw [← HLe.out, ← Hm.out]; exact h40)]
          go_wp2_with fail
          refine bodyPost_ret (results_cell_row_tmp rfl _ _ w.heap.size 26 _ (0, 0) _ rfl (hret (.slice none 0 0)).out.heap Try.underlying26 rfl rfl) rfl ?_
          refine ⟨none, 0, 0, F, ?_, ⟨(hbel _).out, fun _ h => h, fun _ h => .inl h, hF.mono (hbel (.slice none 0 0)).out.size⟩, ?_⟩
          · rw [HE.out]; rfl
          · rw [show ofL xs = [] by unfold ofL; rw [HE.out]; rfl]
            exact listR.nil
        · have hd4 : decide ((m : Int) > 4096) = false := decide_eq_false (by omega)
          have HE : Hid (ofE xs = 0) := by
            show _ = _
            unfold ofE
            rw [if_neg (by rw [← HN.out]; omega), if_pos hall.out, if_neg (by rw [← HLe.out, ← Hm.out]; exact h40)]
          go_wp2_with fail
          refine bodyPost_ret (results_cell_row_tmp rfl _ _ w.heap.size 26 _ (0, 0) _ rfl (hret (.slice A1 m c1)).out.heap Try.underlying26 rfl rfl) rfl ?_
          have hlt4 : ∀ b, Value.ownBlock (.slice A1 L.length c1) = some b → w.heap.size < b ∧ b < w4.heap.size := fun b hb => by
            have h1 := Hz.out.lt b hb
            exact ⟨hbase.out b (by cases A1 <;> exact hb), h1.2⟩
          refine ⟨A1, m, c1, fun b => F b ∨ Value.ownBlock (.slice A1 L.length c1) = some b, ?_, ⟨(hbel _).out, fun _ h => .inl h, fun b hb => ?_, fun b hb => ?_⟩, ?_⟩
          · rw [HE.out]; rfl
          · exact hb.elim .inl fun h => .inr (Nat.le_of_lt (hlt4 b h).1)
          · have hs4 : (w4.setCell ⟨w.heap.size, 0, none⟩ (.slice A1 m c1)).heap.size = w4.heap.size := by simp [World.setCell]
            rw [hs4]
            exact hb.elim (fun h => Nat.lt_of_lt_of_le (hF b h) HB4.out.size) fun h => (hlt4 b h).2
          · have h1 := Hz.out.freeze pfxR_ok
            have hof : ofL xs = L := by unfold ofL; rw [if_pos HE.out, HLe.out]
            rw [hof, Hm.out]
            refine (listR_ok pfxR_ok).keep h1 (fun b hb => ?_) fun b hb => hb
            refine (grownBy_setCell w4 w.heap.size 0 _).block b (hb.elim (fun h => Nat.lt_of_lt_of_le (hF b h) HB4.out.size) fun h => (hlt4 b h).2) fun e => ?_
            cases e
            exact hb.elim (fun h => by have := hF _ h; omega) fun h => by have := (hlt4 _ h).1; omega
end Go.Proofs.Ythiodgnklfbmjaa