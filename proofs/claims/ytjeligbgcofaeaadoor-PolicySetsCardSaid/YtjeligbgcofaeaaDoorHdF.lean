/- Package head: Header.Check; With at what is out of bounds. -/
import Derived.Test.YtjeligbgcofaeaaDoorHdE
namespace Go.Proofs.YtjeligbgcofaeaaDoor
open Go.RowKit
set_option linter.unusedVariables false
set_option linter.unusedSimpArgs false

def chkL (h : Hdr) : List (Int × Nat) := [(h.port, 0), (h.typ, 3), (h.proto, 6), (h.sp, 7), (h.dp, 8)]
def okP (p : Int × Nat) : Bool := decide (0 ≤ p.1) && decide (p.1 ≤ fullN p.2)
def okH (h : Hdr) : Bool := (chkL h).all okP
def chkE (h : Hdr) : Int := if okH h then 0 else 1
theorem chkE_yes {h : Hdr} (e : okH h = true) : chkE h = 0 := by unfold chkE; rw [e]; rfl
theorem chkE_no {h : Hdr} (e : okH h = false) : chkE h = 1 := by unfold chkE; rw [e]; rfl
set_option maxRecDepth 100000 in
set_option maxHeartbeats 8000000 in
theorem hd_Check (h : Hdr) (w : World) (hT : Tab w) (hf : h.Fits) :
    Calls Tryd.prog 21 #[.agg h.vals.toArray] w fun e w' => e = .returned (.int .i64 (chkE h)) ∧ Below w.heap.size w w' := by
  have hcell : ∀ (k : Nat) (x : Int) (f : Nat), (chkL h)[k]? = some (x, f) → (#[Value.int .i64 h.port, .int .i64 0, .int .i64 h.typ, .int .i64 3, .int .i64 h.proto, .int .i64 6, .int .i64 h.sp, .int .i64 7, .int .i64 h.dp, .int .i64 8] : Array Value)[k * 2]? = some (.int .i64 x) ∧ (#[Value.int .i64 h.port, .int .i64 0, .int .i64 h.typ, .int .i64 3, .int .i64 h.proto, .int .i64 6, .int .i64 h.sp, .int .i64 7, .int .i64 h.dp, .int .i64 8] : Array Value)[k * 2 + 1]? = some (.int .i64 (f : Int)) ∧ f < 9 ∧ I64 x := fun k x f hk => by
    match k, hk with
    | 0, rfl => exact ⟨rfl, rfl, by omega, hf.port⟩
    | 1, rfl => exact ⟨rfl, rfl, by omega, hf.typ⟩
    | 2, rfl => exact ⟨rfl, rfl, by omega, hf.proto⟩
    | 3, rfl => exact ⟨rfl, rfl, by omega, hf.sp⟩
    | 4, rfl => exact ⟨rfl, rfl, by omega, hf.dp⟩
  have HCELL := Lib.hid hcell
  have HT := Lib.hid hT
  have hlen : (chkL h).length = 5 := rfl
  have HLEN := Lib.hid hlen
  obtain ⟨L, hL⟩ : ∃ L, L = chkL h := ⟨_, rfl⟩
  have HOK : Hid (okH h = L.all okP) := Lib.hid (by rw [hL]; rfl)
  rw [← hL] at HCELL HLEN
  obtain ⟨port, ⟨s0, s1, s2, s3, s4, s5⟩, ⟨d0, d1', d2', d3', d4, d5⟩, typ, sip, dip, proto, sp, dp⟩ := h
  have hb0 : Below w.heap.size w (w.alloc (.cells (Hdr.mk port ⟨s0, s1, s2, s3, s4, s5⟩ ⟨d0, d1', d2', d3', d4, d5⟩ typ sip dip proto sp dp).vals.toArray 31)) := (Below.refl _ _).alloc (Nat.le_refl _) _
  have HB0 := Lib.hid hb0
  clear hcell hT hlen hL hf hb0
  simp only [Hdr.vals] at HB0 ⊢
  go_enter Tryd.func21, Tryd.ntmps21
  go_upto_region 2 with fail
  obtain ⟨X, hX⟩ : ∃ X : World, X = w.alloc (.cells #[.int .i64 port, .int .u8 s0, .int .u8 s1, .int .u8 s2, .int .u8 s3, .int .u8 s4, .int .u8 s5, .int .u8 d0, .int .u8 d1', .int .u8 d2', .int .u8 d3', .int .u8 d4, .int .u8 d5, .int .i64 typ, .int .u32 sip, .int .u32 dip, .int .i64 proto, .int .i64 sp, .int .i64 dp] 31) := ⟨_, rfl⟩
  have hBX : Below w.heap.size w X := by rw [hX]; exact HB0.out
  have hsX : X.heap.size = w.heap.size + 1 := by rw [hX]; simp
  have HXX : Hid (Below w.heap.size w (X.alloc (.cells #[Value.int .i64 port, .int .i64 0, .int .i64 typ, .int .i64 3, .int .i64 proto, .int .i64 6, .int .i64 sp, .int .i64 7, .int .i64 dp, .int .i64 8] 95)) ∧ Blk (X.alloc (.cells #[Value.int .i64 port, .int .i64 0, .int .i64 typ, .int .i64 3, .int .i64 proto, .int .i64 6, .int .i64 sp, .int .i64 7, .int .i64 dp, .int .i64 8] 95)) (w.heap.size + 1) 95 #[Value.int .i64 port, .int .i64 0, .int .i64 typ, .int .i64 3, .int .i64 proto, .int .i64 6, .int .i64 sp, .int .i64 7, .int .i64 dp, .int .i64 8]) := by
    have h1 := Blk.new X 95 #[Value.int .i64 port, .int .i64 0, .int .i64 typ, .int .i64 3, .int .i64 proto, .int .i64 6, .int .i64 sp, .int .i64 7, .int .i64 dp, .int .i64 8]
    rw [hsX] at h1
    exact Lib.hid ⟨hBX.alloc hBX.size _, h1⟩
  subst hX
  obtain ⟨cs, hcs⟩ : ∃ cs : Array Value, cs = #[Value.int .i64 port, .int .i64 0, .int .i64 typ, .int .i64 3, .int .i64 proto, .int .i64 6, .int .i64 sp, .int .i64 7, .int .i64 dp, .int .i64 8] := ⟨_, rfl⟩
  rw [← hcs] at HXX HCELL
  rw [← hcs]
  clear hcs hBX hsX HB0
  refine wp_gen (fun W => Below w.heap.size w W ∧ Blk W (w.heap.size + 1) 95 cs) HXX.out ?_
  rintro W ⟨hW, hk⟩
  have HW := Lib.hid hW
  have HTW := Lib.hid (HT.out.below hW)
  have HK := Lib.hid hk
  clear hW hk HXX
  go_loopw [22] (fun i wr => ∃ k : Nat, k ≤ 5 ∧ i = .int .i64 k ∧ Hid ((L.take k).all okP = true) ∧ Below W.heap.size W wr) (fun i _ => 5 - (intOf i).toNat)
  case atStart => exact ⟨0, by omega, rfl, Lib.hid rfl, Below.refl _ _⟩
  case round =>
    obtain ⟨k, hk, rfl, HA, hB⟩ := hrel
    by_cases hlt : k < 5
    · obtain ⟨⟨x, f⟩, hxf⟩ : ∃ p, L[k]? = some p := ⟨_, List.getElem?_eq_getElem (by rw [HLEN.out]; exact hlt)⟩
      obtain ⟨c1, c2, hf9, hx64⟩ := HCELL.out k x f hxf
      have hblk := HK.out.below hB HK.out.lt
      have e1 : wr.cell? ⟨w.heap.size + 1, k * 2, none⟩ = some (.int .i64 x) := (hblk.cell (k * 2)).trans c1
      have e2 : wr.cell? ⟨w.heap.size + 1, k * 2 + 1, none⟩ = some (.int .i64 (f : Int)) := (hblk.cell (k * 2 + 1)).trans c2
      have HX := Lib.hid hxf
      have hk0 : (0 : Int) ≤ (k : Int) := by omega
      have hk5 : (k : Int) < 5 := by omega
      have hba : Below W.heap.size W (wr.alloc (.cells #[.int .i64 x, .int .i64 (f : Int)] 95)) := hB.alloc hB.size _
      have HBA := Lib.hid hba
      have HNW := Lib.hid (Blk.new wr 95 #[.int .i64 x, .int .i64 (f : Int)])
      obtain ⟨m, hm⟩ : ∃ m, m = fullN f := ⟨_, rfl⟩
      have HC := Lib.hid (fun W2 (q : Below W.heap.size W W2) => hd_Full f W2 (HTW.out.below q) hf9)
      rw [← hm] at HC
      have hokx : okP (x, f) = (decide (0 ≤ x) && decide (x ≤ (m : Int))) := by rw [hm]; rfl
      have HOX := Lib.hid hokx
      have hx0 := hx64.1
      have hx1 := hx64.2
      clear hxf c1 c2 hblk hba hB hm hokx hx64
      go_upto_region 4 with fail
      refine wp_gen (fun W2 => Below W.heap.size W W2 ∧ Blk W2 wr.heap.size 95 #[.int .i64 x, .int .i64 (f : Int)]) ⟨HBA.out, HNW.out⟩ ?_
      rintro W2 ⟨hW2, hk2⟩
      have HW2 := Lib.hid hW2
      have q1 : ∀ w', Below W2.heap.size W2 w' → w'.cell? ⟨wr.heap.size, 0, none⟩ = some (.int .i64 x) := fun w' q => (hk2.below q hk2.lt).cell 0
      have q2 : ∀ w', Below W2.heap.size W2 w' → w'.cell? ⟨wr.heap.size, 1, none⟩ = some (.int .i64 (f : Int)) := fun w' q => (hk2.below q hk2.lt).cell 1
      have hWW : Below W2.heap.size W2 W2 := Below.refl _ _
      clear hW2 hk2 HBA HNW e1 e2
      have BAD : ¬ okP (x, f) = true → Hid (okH ⟨port, ⟨s0, s1, s2, s3, s4, s5⟩, ⟨d0, d1', d2', d3', d4, d5⟩, typ, sip, dip, proto, sp, dp⟩ = false) := fun hn => by
        show _ = _
        rw [HOK.out]
        cases hall : L.all okP
        · rfl
        · exact absurd (List.all_eq_true.1 hall _ (List.mem_of_getElem? HX.out)) hn
      have BAD' := Lib.hid BAD
      clear BAD
      by_cases hneg : x < 0
      · have E := BAD'.out (by rw [HOX.out, decide_eq_false (show ¬ 0 ≤ x by omega)]; simp)
        have d1 : decide (x < 0) = true := decide_eq_true hneg
        refine wp_region_held_drew (S := (fun w' => Below W2.heap.size W2 w')) (by kernel_rfl) ?_ (fun hHeld => ?_)
        · (try dsimp only); (first | (with_reducible exact below_step (by assumption) hb1') | (repeat' (first | (with_reducible exact Below.refl _ _) | (with_reducible assumption) | (with_reducible exact Below.size (by assumption)) | (with_reducible refine Below.drew ?_))))
        refine wpAnyH_take (i := 0) (v := ?_) rfl (by kernel_rfl) (by kernel_rfl) (by kernel_rfl) (fun _ _ _ h => h) (Or.inl ⟨by rfl, ?_⟩) (by assumption) ?_
        rotate_left
        · (intro w hSw; (try dsimp only at hSw); go_simp; first | done | with_reducible rfl)
        try simp only [List.getElem_toArray, List.getElem_cons_zero, List.getElem_cons_succ, Act.put, List.setIfInBounds_toArray, List.set_cons_zero, List.set_cons_succ]
        refine wpAnyH_take (i := 1) (v := ?_) rfl (by kernel_rfl) (by kernel_rfl) (by kernel_rfl) (fun _ _ _ h => h) (Or.inl ⟨by rfl, ?_⟩) (by assumption) ?_
        rotate_left
        · (intro w hSw; (try dsimp only at hSw); go_simp; first | done | with_reducible rfl)
        try simp only [List.getElem_toArray, List.getElem_cons_zero, List.getElem_cons_succ, Act.put, List.setIfInBounds_toArray, List.set_cons_zero, List.set_cons_succ]
        refine wpAnyH_take (i := 2) (v := ?_) rfl (by kernel_rfl) (by kernel_rfl) (by kernel_rfl) (fun _ _ _ h => h) (Or.inl ⟨by rfl, ?_⟩) (by assumption) ?_
        rotate_left
        · (intro w hSw; (try dsimp only at hSw); go_simp; first | done | with_reducible rfl)
        try simp only [List.getElem_toArray, List.getElem_cons_zero, List.getElem_cons_succ, Act.put, List.setIfInBounds_toArray, List.set_cons_zero, List.set_cons_succ]
        refine wpAnyH_take (i := 3) (v := ?_) rfl (by kernel_rfl) (by kernel_rfl) (by kernel_rfl) (fun _ _ _ h => h) (Or.inl ⟨by rfl, ?_⟩) (by assumption) ?_
        rotate_left
        · (intro w hSw; (try dsimp only at hSw); go_simp; first | done | with_reducible rfl)
        try simp only [List.getElem_toArray, List.getElem_cons_zero, List.getElem_cons_succ, Act.put, List.setIfInBounds_toArray, List.set_cons_zero, List.set_cons_succ]
        refine wpAnyH_take (i := 4) (v := undef) rfl (by kernel_rfl) (by kernel_rfl) (by kernel_rfl) (fun _ _ _ h => h) (Or.inr ⟨by rfl, rfl⟩) (by assumption) ?_
        try simp only [List.getElem_toArray, List.getElem_cons_zero, List.getElem_cons_succ, Act.put, List.setIfInBounds_toArray, List.set_cons_zero, List.set_cons_succ]
        refine wpAnyH_take (i := 5) (v := undef) rfl (by kernel_rfl) (by kernel_rfl) (by kernel_rfl) (fun _ _ _ h => h) (Or.inr ⟨by rfl, rfl⟩) (by assumption) ?_
        try simp only [List.getElem_toArray, List.getElem_cons_zero, List.getElem_cons_succ, Act.put, List.setIfInBounds_toArray, List.set_cons_zero, List.set_cons_succ]
        refine wpAnyH_take (i := 6) (v := undef) rfl (by kernel_rfl) (by kernel_rfl) (by kernel_rfl) (fun _ _ _ h => h) (Or.inr ⟨by rfl, rfl⟩) (by assumption) ?_
        try simp only [List.getElem_toArray, List.getElem_cons_zero, List.getElem_cons_succ, Act.put, List.setIfInBounds_toArray, List.set_cons_zero, List.set_cons_succ]
        refine wpAnyH_take (i := 7) (v := undef) rfl (by kernel_rfl) (by kernel_rfl) (by kernel_rfl) (fun _ _ _ h => h) (Or.inr ⟨by rfl, rfl⟩) (by assumption) ?_
        try simp only [List.getElem_toArray, List.getElem_cons_zero, List.getElem_cons_succ, Act.put, List.setIfInBounds_toArray, List.set_cons_zero, List.set_cons_succ]
        refine wpAnyH_take (i := 8) (v := undef) rfl (by kernel_rfl) (by kernel_rfl) (by kernel_rfl) (fun _ _ _ h => h) (Or.inr ⟨by rfl, rfl⟩) (by assumption) ?_
        try simp only [List.getElem_toArray, List.getElem_cons_zero, List.getElem_cons_succ, Act.put, List.setIfInBounds_toArray, List.set_cons_zero, List.set_cons_succ]
        refine wpAnyH_take (i := 9) (v := undef) rfl (by kernel_rfl) (by kernel_rfl) (by kernel_rfl) (fun _ _ _ h => h) (Or.inr ⟨by rfl, rfl⟩) (by assumption) ?_
        try simp only [List.getElem_toArray, List.getElem_cons_zero, List.getElem_cons_succ, Act.put, List.setIfInBounds_toArray, List.set_cons_zero, List.set_cons_succ]
        refine wpAnyH_take (i := 10) (v := undef) rfl (by kernel_rfl) (by kernel_rfl) (by kernel_rfl) (fun _ _ _ h => h) (Or.inr ⟨by rfl, rfl⟩) (by assumption) ?_
        try simp only [List.getElem_toArray, List.getElem_cons_zero, List.getElem_cons_succ, Act.put, List.setIfInBounds_toArray, List.set_cons_zero, List.set_cons_succ]
        refine wpAnyH_take (i := 11) (v := ?_) rfl (by kernel_rfl) (by kernel_rfl) (by kernel_rfl) (fun _ _ _ h => h) (Or.inl ⟨by rfl, ?_⟩) (by assumption) ?_
        rotate_left
        · (intro w hSw; (try dsimp only at hSw); go_simp; first | done | with_reducible rfl)
        try simp only [List.getElem_toArray, List.getElem_cons_zero, List.getElem_cons_succ, Act.put, List.setIfInBounds_toArray, List.set_cons_zero, List.set_cons_succ]
        refine wpAnyH_done (by kernel_rfl) ?_ _
        go_wp2_with fail
        go_ret
        exact ⟨ret_int (chkE_no E.out).symm, below_step HW.out (below_step HW2.out (by assumption))⟩
      · have d1 : decide (x < 0) = false := decide_eq_false hneg
        have hw : IntKind.u64.wrap x = x := by rw [IntKind.wrap_u64]; omega
        by_cases hbig : (m : Int) < x
        · have E := BAD'.out (by rw [HOX.out, decide_eq_false (show ¬ x ≤ (m : Int) by omega)]; simp)
          have d2 : decide (x > (m : Int)) = true := decide_eq_true hbig
          refine wp_region_held_drew (S := (fun w' => Below W2.heap.size W2 w')) (by kernel_rfl) ?_ (fun hHeld => ?_)
          · (try dsimp only); (first | (with_reducible exact below_step (by assumption) hb1') | (repeat' (first | (with_reducible exact Below.refl _ _) | (with_reducible assumption) | (with_reducible exact Below.size (by assumption)) | (with_reducible refine Below.drew ?_))))
          refine wpAnyH_take (i := 0) (v := ?_) rfl (by kernel_rfl) (by kernel_rfl) (by kernel_rfl) (fun _ _ _ h => h) (Or.inl ⟨by rfl, ?_⟩) (by assumption) ?_
          rotate_left
          · (intro w hSw; (try dsimp only at hSw); go_simp; first | done | with_reducible rfl)
          try simp only [List.getElem_toArray, List.getElem_cons_zero, List.getElem_cons_succ, Act.put, List.setIfInBounds_toArray, List.set_cons_zero, List.set_cons_succ]
          refine wpAnyH_take (i := 1) (v := ?_) rfl (by kernel_rfl) (by kernel_rfl) (by kernel_rfl) (fun _ _ _ h => h) (Or.inl ⟨by rfl, ?_⟩) (by assumption) ?_
          rotate_left
          · (intro w hSw; (try dsimp only at hSw); go_simp; first | done | with_reducible rfl)
          try simp only [List.getElem_toArray, List.getElem_cons_zero, List.getElem_cons_succ, Act.put, List.setIfInBounds_toArray, List.set_cons_zero, List.set_cons_succ]
          refine wpAnyH_take (i := 2) (v := ?_) rfl (by kernel_rfl) (by kernel_rfl) (by kernel_rfl) (fun _ _ _ h => h) (Or.inl ⟨by rfl, ?_⟩) (by assumption) ?_
          rotate_left
          · (intro w hSw; (try dsimp only at hSw); go_simp; first | done | with_reducible rfl)
          try simp only [List.getElem_toArray, List.getElem_cons_zero, List.getElem_cons_succ, Act.put, List.setIfInBounds_toArray, List.set_cons_zero, List.set_cons_succ]
          refine wpAnyH_take (i := 3) (v := ?_) rfl (by kernel_rfl) (by kernel_rfl) (by kernel_rfl) (fun _ _ _ h => h) (Or.inl ⟨by rfl, ?_⟩) (by assumption) ?_
          rotate_left
          · (intro w hSw; (try dsimp only at hSw); go_simp; first | done | with_reducible rfl)
          try simp only [List.getElem_toArray, List.getElem_cons_zero, List.getElem_cons_succ, Act.put, List.setIfInBounds_toArray, List.set_cons_zero, List.set_cons_succ]
          refine wpAnyH_take (i := 4) (v := ?_) rfl (by kernel_rfl) (by kernel_rfl) (by kernel_rfl) (fun _ _ _ h => h) (Or.inl ⟨by rfl, ?_⟩) (by assumption) ?_
          rotate_left
          · (intro w hSw; (try dsimp only at hSw); go_simp; first | done | with_reducible rfl)
          try simp only [List.getElem_toArray, List.getElem_cons_zero, List.getElem_cons_succ, Act.put, List.setIfInBounds_toArray, List.set_cons_zero, List.set_cons_succ]
          refine wpAnyH_take (i := 5) (v := ?_) rfl (by kernel_rfl) (by kernel_rfl) (by kernel_rfl) (fun _ _ _ h => h) (Or.inl ⟨by rfl, ?_⟩) (by assumption) ?_
          rotate_left
          · (intro w hSw; (try dsimp only at hSw); go_simp; first | done | with_reducible rfl)
          try simp only [List.getElem_toArray, List.getElem_cons_zero, List.getElem_cons_succ, Act.put, List.setIfInBounds_toArray, List.set_cons_zero, List.set_cons_succ]
          refine wpAnyH_take (i := 6) (v := ?_) rfl (by kernel_rfl) (by kernel_rfl) (by kernel_rfl) (fun _ _ _ h => h) (Or.inl ⟨by rfl, ?_⟩) (by assumption) ?_
          rotate_left
          · (intro w hSw; (try dsimp only at hSw); go_simp; first | done | with_reducible rfl)
          try simp only [List.getElem_toArray, List.getElem_cons_zero, List.getElem_cons_succ, Act.put, List.setIfInBounds_toArray, List.set_cons_zero, List.set_cons_succ]
          refine wpAnyH_take (i := 7) (v := ?_) rfl (by kernel_rfl) (by kernel_rfl) (by kernel_rfl) (fun _ _ _ h => h) (Or.inl ⟨by rfl, ?_⟩) (by assumption) ?_
          rotate_left
          · (intro w hSw; (try dsimp only at hSw); go_simp; first | done | with_reducible rfl)
          try simp only [List.getElem_toArray, List.getElem_cons_zero, List.getElem_cons_succ, Act.put, List.setIfInBounds_toArray, List.set_cons_zero, List.set_cons_succ]
          refine wpAnyH_take (i := 8) (v := ?_) rfl (by kernel_rfl) (by kernel_rfl) (by kernel_rfl) (fun _ _ _ h => h) (Or.inl ⟨by rfl, ?_⟩) (by assumption) ?_
          rotate_left
          · (intro w hSw; (try dsimp only at hSw); go_simp; first | done | with_reducible rfl)
          try simp only [List.getElem_toArray, List.getElem_cons_zero, List.getElem_cons_succ, Act.put, List.setIfInBounds_toArray, List.set_cons_zero, List.set_cons_succ]
          refine wpAnyH_ready (rs := [9]) (by kernel_rfl) (by simp) ?_
          refine AllReadyH.cons rfl (fun K hK => ?_) AllReadyH.nil
          go_simp
          (go_at_call 27; (with_reducible refine (HC.out _ (below_step HW2.out hHeld)).mono ?_); rintro e u1 ⟨rfl, rfl⟩; have hb1' := hHeld; have hq := hHeld)
          go_wp2_with fail
          refine hK.out _ _ ?_ (fun hHeldN => ?_)
          · (try dsimp only); (first | (with_reducible exact below_step (by assumption) hb1') | (repeat' (first | (with_reducible exact Below.refl _ _) | (with_reducible assumption) | (with_reducible exact Below.size (by assumption)) | (with_reducible refine Below.drew ?_))))
          clear hK K hHeld
          try clear hb1' hq
          have hHeld := hHeldN
          clear hHeldN
          try simp only [List.getElem_toArray, List.getElem_cons_zero, List.getElem_cons_succ, Act.put, List.setIfInBounds_toArray, List.set_cons_zero, List.set_cons_succ]
          refine wpAnyH_take (i := 10) (v := ?_) rfl (by kernel_rfl) (by kernel_rfl) (by kernel_rfl) (fun _ _ _ h => h) (Or.inl ⟨by rfl, ?_⟩) (by assumption) ?_
          rotate_left
          · (intro w hSw; (try dsimp only at hSw); go_simp; first | done | with_reducible rfl)
          try simp only [List.getElem_toArray, List.getElem_cons_zero, List.getElem_cons_succ, Act.put, List.setIfInBounds_toArray, List.set_cons_zero, List.set_cons_succ]
          refine wpAnyH_take (i := 11) (v := ?_) rfl (by kernel_rfl) (by kernel_rfl) (by kernel_rfl) (fun _ _ _ h => h) (Or.inl ⟨by rfl, ?_⟩) (by assumption) ?_
          rotate_left
          · (intro w hSw; (try dsimp only at hSw); go_simp; first | done | with_reducible rfl)
          try simp only [List.getElem_toArray, List.getElem_cons_zero, List.getElem_cons_succ, Act.put, List.setIfInBounds_toArray, List.set_cons_zero, List.set_cons_succ]
          refine wpAnyH_done (by kernel_rfl) ?_ _
          go_wp2_with fail
          go_ret
          exact ⟨ret_int (chkE_no E.out).symm, below_step HW.out (below_step HW2.out (by assumption))⟩
        · have d2 : decide (x > (m : Int)) = false := decide_eq_false hbig
          have HN : Hid ((L.take (k + 1)).all okP = true) := Lib.hid (all_take HX.out HA.out (by rw [HOX.out, decide_eq_true (show 0 ≤ x by omega), decide_eq_true (show x ≤ (m : Int) by omega)]; rfl))
          refine wp_region_held_drew (S := (fun w' => Below W2.heap.size W2 w')) (by kernel_rfl) ?_ (fun hHeld => ?_)
          · (try dsimp only); (first | (with_reducible exact below_step (by assumption) hb1') | (repeat' (first | (with_reducible exact Below.refl _ _) | (with_reducible assumption) | (with_reducible exact Below.size (by assumption)) | (with_reducible refine Below.drew ?_))))
          refine wpAnyH_take (i := 0) (v := ?_) rfl (by kernel_rfl) (by kernel_rfl) (by kernel_rfl) (fun _ _ _ h => h) (Or.inl ⟨by rfl, ?_⟩) (by assumption) ?_
          rotate_left
          · (intro w hSw; (try dsimp only at hSw); go_simp; first | done | with_reducible rfl)
          try simp only [List.getElem_toArray, List.getElem_cons_zero, List.getElem_cons_succ, Act.put, List.setIfInBounds_toArray, List.set_cons_zero, List.set_cons_succ]
          refine wpAnyH_take (i := 1) (v := ?_) rfl (by kernel_rfl) (by kernel_rfl) (by kernel_rfl) (fun _ _ _ h => h) (Or.inl ⟨by rfl, ?_⟩) (by assumption) ?_
          rotate_left
          · (intro w hSw; (try dsimp only at hSw); go_simp; first | done | with_reducible rfl)
          try simp only [List.getElem_toArray, List.getElem_cons_zero, List.getElem_cons_succ, Act.put, List.setIfInBounds_toArray, List.set_cons_zero, List.set_cons_succ]
          refine wpAnyH_take (i := 2) (v := ?_) rfl (by kernel_rfl) (by kernel_rfl) (by kernel_rfl) (fun _ _ _ h => h) (Or.inl ⟨by rfl, ?_⟩) (by assumption) ?_
          rotate_left
          · (intro w hSw; (try dsimp only at hSw); go_simp; first | done | with_reducible rfl)
          try simp only [List.getElem_toArray, List.getElem_cons_zero, List.getElem_cons_succ, Act.put, List.setIfInBounds_toArray, List.set_cons_zero, List.set_cons_succ]
          refine wpAnyH_take (i := 3) (v := ?_) rfl (by kernel_rfl) (by kernel_rfl) (by kernel_rfl) (fun _ _ _ h => h) (Or.inl ⟨by rfl, ?_⟩) (by assumption) ?_
          rotate_left
          · (intro w hSw; (try dsimp only at hSw); go_simp; first | done | with_reducible rfl)
          try simp only [List.getElem_toArray, List.getElem_cons_zero, List.getElem_cons_succ, Act.put, List.setIfInBounds_toArray, List.set_cons_zero, List.set_cons_succ]
          refine wpAnyH_take (i := 4) (v := ?_) rfl (by kernel_rfl) (by kernel_rfl) (by kernel_rfl) (fun _ _ _ h => h) (Or.inl ⟨by rfl, ?_⟩) (by assumption) ?_
          rotate_left
          · (intro w hSw; (try dsimp only at hSw); go_simp; first | done | with_reducible rfl)
          try simp only [List.getElem_toArray, List.getElem_cons_zero, List.getElem_cons_succ, Act.put, List.setIfInBounds_toArray, List.set_cons_zero, List.set_cons_succ]
          refine wpAnyH_take (i := 5) (v := ?_) rfl (by kernel_rfl) (by kernel_rfl) (by kernel_rfl) (fun _ _ _ h => h) (Or.inl ⟨by rfl, ?_⟩) (by assumption) ?_
          rotate_left
          · (intro w hSw; (try dsimp only at hSw); go_simp; first | done | with_reducible rfl)
          try simp only [List.getElem_toArray, List.getElem_cons_zero, List.getElem_cons_succ, Act.put, List.setIfInBounds_toArray, List.set_cons_zero, List.set_cons_succ]
          refine wpAnyH_take (i := 6) (v := ?_) rfl (by kernel_rfl) (by kernel_rfl) (by kernel_rfl) (fun _ _ _ h => h) (Or.inl ⟨by rfl, ?_⟩) (by assumption) ?_
          rotate_left
          · (intro w hSw; (try dsimp only at hSw); go_simp; first | done | with_reducible rfl)
          try simp only [List.getElem_toArray, List.getElem_cons_zero, List.getElem_cons_succ, Act.put, List.setIfInBounds_toArray, List.set_cons_zero, List.set_cons_succ]
          refine wpAnyH_take (i := 7) (v := ?_) rfl (by kernel_rfl) (by kernel_rfl) (by kernel_rfl) (fun _ _ _ h => h) (Or.inl ⟨by rfl, ?_⟩) (by assumption) ?_
          rotate_left
          · (intro w hSw; (try dsimp only at hSw); go_simp; first | done | with_reducible rfl)
          try simp only [List.getElem_toArray, List.getElem_cons_zero, List.getElem_cons_succ, Act.put, List.setIfInBounds_toArray, List.set_cons_zero, List.set_cons_succ]
          refine wpAnyH_take (i := 8) (v := ?_) rfl (by kernel_rfl) (by kernel_rfl) (by kernel_rfl) (fun _ _ _ h => h) (Or.inl ⟨by rfl, ?_⟩) (by assumption) ?_
          rotate_left
          · (intro w hSw; (try dsimp only at hSw); go_simp; first | done | with_reducible rfl)
          try simp only [List.getElem_toArray, List.getElem_cons_zero, List.getElem_cons_succ, Act.put, List.setIfInBounds_toArray, List.set_cons_zero, List.set_cons_succ]
          refine wpAnyH_ready (rs := [9]) (by kernel_rfl) (by simp) ?_
          refine AllReadyH.cons rfl (fun K hK => ?_) AllReadyH.nil
          go_simp
          (go_at_call 27; (with_reducible refine (HC.out _ (below_step HW2.out hHeld)).mono ?_); rintro e u1 ⟨rfl, rfl⟩; have hb1' := hHeld; have hq := hHeld)
          go_wp2_with fail
          refine hK.out _ _ ?_ (fun hHeldN => ?_)
          · (try dsimp only); (first | (with_reducible exact below_step (by assumption) hb1') | (repeat' (first | (with_reducible exact Below.refl _ _) | (with_reducible assumption) | (with_reducible exact Below.size (by assumption)) | (with_reducible refine Below.drew ?_))))
          clear hK K hHeld
          try clear hb1' hq
          have hHeld := hHeldN
          clear hHeldN
          try simp only [List.getElem_toArray, List.getElem_cons_zero, List.getElem_cons_succ, Act.put, List.setIfInBounds_toArray, List.set_cons_zero, List.set_cons_succ]
          refine wpAnyH_take (i := 10) (v := ?_) rfl (by kernel_rfl) (by kernel_rfl) (by kernel_rfl) (fun _ _ _ h => h) (Or.inl ⟨by rfl, ?_⟩) (by assumption) ?_
          rotate_left
          · (intro w hSw; (try dsimp only at hSw); go_simp; first | done | with_reducible rfl)
          try simp only [List.getElem_toArray, List.getElem_cons_zero, List.getElem_cons_succ, Act.put, List.setIfInBounds_toArray, List.set_cons_zero, List.set_cons_succ]
          refine wpAnyH_take (i := 11) (v := ?_) rfl (by kernel_rfl) (by kernel_rfl) (by kernel_rfl) (fun _ _ _ h => h) (Or.inl ⟨by rfl, ?_⟩) (by assumption) ?_
          rotate_left
          · (intro w hSw; (try dsimp only at hSw); go_simp; first | done | with_reducible rfl)
          try simp only [List.getElem_toArray, List.getElem_cons_zero, List.getElem_cons_succ, Act.put, List.setIfInBounds_toArray, List.set_cons_zero, List.set_cons_succ]
          refine wpAnyH_done (by kernel_rfl) ?_ _
          go_wp2_with fail
          go_roundw
          case rel => exact ⟨k + 1, by omega, by go_num, HN, below_step HW2.out (by assumption)⟩
          case measure => simp [intOf]; omega
    · have E : Hid (okH ⟨port, ⟨s0, s1, s2, s3, s4, s5⟩, ⟨d0, d1', d2', d3', d4, d5⟩, typ, sip, dip, proto, sp, dp⟩ = true) := by
        show _ = _
        rw [HOK.out]
        exact all_whole (by rw [HLEN.out]; omega) HA.out
      go_wp2_with fail
      go_ret
      exact ⟨ret_int (chkE_yes E.out).symm, below_step HW.out hB⟩
end Go.Proofs.YtjeligbgcofaeaaDoor
