/- (attr.Attrs).Clone returns the same attributes in new memory. -/
import Derived.Test.YtngfabnkgpidjaaLib3
import Derived.Test.YtngfabnkgpidjaaReachC
import Derived.Test.YtngfabnkgpidjaaChooseI
namespace Go.Proofs.Ytngfabnkgpidjaa
open Go.RowKit
set_option linter.unusedVariables false

theorem seg_info : (Try.prog.info? 38).map (fun i => (i.zero, i.size, i.bytes)) = some (some (.agg #[.bool false, .slice none 0 0]), 2, 32) := by kernel_rfl
theorem other_info : (Try.prog.info? 68).map (fun i => (i.zero, i.size, i.bytes)) = some (some (.agg #[.int .i64 0, .slice none 0 0]), 2, 32) := by kernel_rfl
theorem byte_info : (Try.prog.info? 5).map (fun i => (i.zero, i.size, i.bytes)) = some (some (.int .u8 0), 1, 1) := by kernel_rfl
/-- another block was frozen, made since -/
theorem ownR.more {α : Type} {e : TypeId} {size : Nat} {R : Rep α} {w w' : World} {F : Nat → Prop} {base : Nat} {v : Value} {xs : List α} (ok : R.Ok size) (h : ownR e size R w F base v xs) (hg : Below w.heap.size w w') (hF : InF F w) (ub : Option Nat) (hu : ∀ g, ub = some g → w.heap.size ≤ g) :
    ownR e size R w' (fun b => F b ∨ ub = some b) base v xs := by
  refine h.kept ok (grownBy_of_below hg) (by cases h : v.ownBlock <;> simp) (fun b hb => hg.block b (hF b hb)) (fun b hb => .inl hb) fun g hv hb => ?_
  obtain ⟨cells, h1, h2, h3⟩ := h
  rcases hb with hb | hb
  · exact h3 g hv hb
  · have := (h1.lt g hv).2
    have := hu g hb
    omega
theorem seg_new {w1 : World} {F Fk : Nat → Prop} {base : Nat} {u : Value} {st : Bool} {row : List Int} (h : ownR 3 1 (intR .i64) w1 F base u row) (hs : ∀ b, F b → Fk b) :
    segR w1 (fun b => Fk b ∨ u.ownBlock = some b) [.bool st, u] ⟨st, row⟩ := by
  refine ⟨u, rfl, (listR_ok (intR_ok _)).keep (h.freeze (intR_ok _)) (fun _ _ => rfl) fun b hb => ?_⟩
  rcases hb with hb | hb
  · exact .inl (hs b hb)
  · exact .inr hb

theorem ownR.form_n {α : Type} {e : TypeId} {size : Nat} {R : Rep α} {w : World} {F : Nat → Prop} {base n : Nat} {v : Value} {xs : List α} (h : ownR e size R w F base v xs) (hn : xs.length = n) : ∃ A c, v = .slice A n c := by
  subst hn
  exact h.form
structure ClSt {α : Type} (e : TypeId) (R : Rep α) (w wr : World) (F Fk : Nat → Prop) (cells : List Value) (v : Value) (ps : List α) : Prop where
  blk : Blk wr w.heap.size 31 cells.toArray
  res : ∃ z : Array Value, z.size = 10 ∧ Blk wr (w.heap.size + 1) 31 z
  own : ownR e 2 R wr Fk (w.heap.size + 2) v ps
  grew : Grew w F wr Fk
  hi : ∀ b, Fk b → F b ∨ w.heap.size + 2 ≤ b
theorem ClSt.size {α : Type} {e : TypeId} {R : Rep α} {w wr : World} {F Fk : Nat → Prop} {cells : List Value} {v : Value} {ps : List α} (h : ClSt e R w wr F Fk cells v ps) : w.heap.size + 2 ≤ wr.heap.size := by
  obtain ⟨z, _, hz⟩ := h.res
  have := hz.lt
  omega
theorem ClSt.more {α : Type} {e : TypeId} {R : Rep α} (ok : R.Ok 2) {w wr w' : World} {F Fk : Nat → Prop} {cells : List Value} {v : Value} {ps : List α} (h : ClSt e R w wr F Fk cells v ps) (hb : Below wr.heap.size wr w') (ub : Option Nat) (hu : ∀ g, ub = some g → wr.heap.size ≤ g ∧ g < w'.heap.size) :
    ClSt e R w w' F (fun b => Fk b ∨ ub = some b) cells v ps := by
  have hs := h.size
  obtain ⟨z, hz, hzb⟩ := h.res
  refine ⟨h.blk.below hb h.blk.lt, ⟨z, hz, hzb.below hb hzb.lt⟩, h.own.more ok hb h.grew.lt ub fun g hg => (hu g hg).1, ⟨below_step h.grew.below hb, fun b hb => .inl (h.grew.sub b hb), fun b hb' => ?_, fun b hb' => ?_⟩, fun b hb' => ?_⟩
  · rcases hb' with h1 | h1
    · exact h.grew.fresh b h1
    · have := hu b h1
      exact .inr (by omega)
  · rcases hb' with h1 | h1
    · have := h.grew.lt b h1
      have := hb.size
      omega
    · exact (hu b h1).2
  · rcases hb' with h1 | h1
    · exact h.hi b h1
    · have := hu b h1
      exact .inr (by omega)
theorem ClSt.push {α : Type} {e : TypeId} {R : Rep α} (ok : R.Ok 2) {w X w2 : World} {F Fk : Nat → Prop} {cells : List Value} {v v2 : Value} {ps qs : List α} (h : ClSt e R w X F Fk cells v ps) (hF : InF F w) (hv : ownR e 2 R w2 Fk (w.heap.size + 2) v2 qs) (hg : X.grownBy w2 v.ownBlock) (j : Nat) :
    ClSt e R w (w2.setCell ⟨w.heap.size, j, none⟩ v2) F Fk (cells.set j v2) v2 qs := by
  have hs := h.size
  have hne : ∀ g, v.ownBlock = some g → w.heap.size + 2 ≤ g := fun g hg => (h.own.lt g hg).1
  have hb2 : Blk w2 w.heap.size 31 cells.toArray := ⟨(hg.block _ h.blk.lt (fun e => by have := hne _ e.symm; omega)).trans h.blk.heap⟩
  obtain ⟨z, hz, hzb⟩ := h.res
  have hz2 : Blk w2 (w.heap.size + 1) 31 z := ⟨(hg.block _ hzb.lt (fun e => by have := hne _ e.symm; omega)).trans hzb.heap⟩
  have hgs := grownBy_setCell w2 w.heap.size j v2
  have hFk : ∀ b, Fk b → b ≠ w.heap.size := fun b hb e => by
    rcases h.hi b hb with h1 | h1
    · have := hF b h1
      omega
    · omega
  have hX := hg.size
  refine ⟨hb2.set_ j v2, ⟨z, hz, hz2.grown hgs (by omega)⟩, hv.kept ok hgs (.inr (fun e => by have := (hv.lt _ e).1; omega)) (fun b hb => hgs.block b (by have := h.grew.lt b hb; omega) (fun e => hFk b hb (by cases e; rfl))) (fun _ h => h) ?_, (h.grew.grown hg (fun g hg => by have := hne g hg; omega)).grown hgs (fun g hg => by cases hg; exact Nat.le_refl _), h.hi⟩
  obtain ⟨cells', h1, h2, h3⟩ := hv
  exact h3
/-- a field is done: another one begins, with nothing -/
theorem ClSt.next {α β : Type} {e e' : TypeId} {R : Rep α} {R' : Rep β} (ok : R.Ok 2) {w X : World} {F Fk : Nat → Prop} {cells : List Value} {v : Value} {ps : List α} (h : ClSt e R w X F Fk cells v ps) :
    ClSt e' R' w X F (fun b => Fk b ∨ v.ownBlock = some b) cells (.slice none 0 0) [] ∧ listR 2 R X (fun b => Fk b ∨ v.ownBlock = some b) [v] ps :=
  ⟨⟨h.blk, h.res, ownR.nil, h.grew.own h.own (by omega), fun b hb => by
    rcases hb with h1 | h1
    · exact h.hi b h1
    · exact .inr (h.own.lt b h1).1⟩, h.own.freeze ok⟩

theorem ClSt.field {α : Type} {e : TypeId} {R : Rep α} {w X w2 : World} {F Fk : Nat → Prop} {cells : List Value} {v : Value} {ps : List α} (h : ClSt e R w X F Fk cells v ps) (hg : X.grownBy w2 v.ownBlock) (j : Nat) :
    w2.cell? ⟨w.heap.size, j, none⟩ = cells[j]? ∧ w2.frozen? ⟨w.heap.size, j, none⟩ = false := by
  have hne : ∀ g, v.ownBlock = some g → w.heap.size + 2 ≤ g := fun g hg => (h.own.lt g hg).1
  have hb2 : Blk w2 w.heap.size 31 cells.toArray := ⟨(hg.block _ h.blk.lt (fun e => by have := hne _ e.symm; omega)).trans h.blk.heap⟩
  exact ⟨by rw [hb2.cell]; simp, hb2.free j⟩
theorem clone_seg {w wr w1 : World} {F Fk : Nat → Prop} {cells : List Value} {v : Value} {ps : List Seg} (S : ClSt 38 segR w wr F Fk cells v ps) (st : Bool) (row : List Int) (u : Value)
    (hu : ownR 3 1 (intR .i64) w1 F (wr.heap.size + 1) u row) (hb1 : Below wr.heap.size wr w1) (o : Obj) :
    ∃ F1, ClSt 38 segR w (w1.alloc o) F F1 cells v ps ∧ segR (w1.alloc o) F1 [.bool st, u] ⟨st, row⟩ := by
  have hsz := hb1.size
  refine ⟨fun b => Fk b ∨ u.ownBlock = some b, S.more segR_ok (hb1.alloc hsz o) u.ownBlock fun g hg => ?_, segR_ok.keep (seg_new (st := st) hu S.grew.sub) (fun b hb => Below.heap_alloc w1 o b ?_) fun _ h => h⟩
  · have := hu.lt g hg
    simp
    omega
  · rcases hb with h1 | h1
    · have := S.grew.lt b h1
      omega
    · exact (hu.lt b h1).2

/-- what is frozen stands, and stays frozen -/
def KeepF (X : World) (Fk : Nat → Prop) (X' : World) (Fk' : Nat → Prop) : Prop := (∀ b, Fk b → X'.heap[b]? = X.heap[b]?) ∧ ∀ b, Fk b → Fk' b
theorem KeepF.trans {X Y Z : World} {F G H : Nat → Prop} (h : KeepF X F Y G) (k : KeepF Y G Z H) : KeepF X F Z H := ⟨fun b hb => (k.1 b (h.2 b hb)).trans (h.1 b hb), fun b hb => k.2 b (h.2 b hb)⟩
theorem Rep.Ok.kept {α : Type} {size : Nat} {R : Rep α} (ok : R.Ok size) {w w' : World} {F F' : Nat → Prop} {cs : List Value} {x : α} (h : R w F cs x) (k : KeepF w F w' F') : R w' F' cs x := ok.keep h k.1 k.2
theorem other_new {w1 : World} {F Fk : Nat → Prop} {base : Nat} {u : Value} {t : Int} {row : List Int} (h : ownR 5 1 (intR .u8) w1 F base u row) (hs : ∀ b, F b → Fk b) (ht : -9223372036854775808 ≤ t ∧ t ≤ 9223372036854775807) :
    otherR w1 (fun b => Fk b ∨ u.ownBlock = some b) [.int .i64 t, u] ⟨t, row⟩ := by
  refine ⟨u, rfl, ht, (listR_ok (intR_ok _)).keep (h.freeze (intR_ok _)) (fun _ _ => rfl) fun b hb => ?_⟩
  rcases hb with hb | hb
  · exact .inl (hs b hb)
  · exact .inr hb
theorem ClSt.moreF {α : Type} {e : TypeId} {R : Rep α} {w wr w' : World} {F Fk : Nat → Prop} {cells : List Value} {v : Value} {ps : List α} (h : ClSt e R w wr F Fk cells v ps) (hb : Below wr.heap.size wr w') (ub : Option Nat) : KeepF wr Fk w' (fun b => Fk b ∨ ub = some b) :=
  ⟨fun b hb' => hb.block b (h.grew.lt b hb'), fun b hb => .inl hb⟩
theorem clone_other {w wr w1 : World} {F Fk : Nat → Prop} {cells : List Value} {v : Value} {ps : List Other} (S : ClSt 68 otherR w wr F Fk cells v ps) (t : Int) (row : List Int) (u : Value) (ht : -9223372036854775808 ≤ t ∧ t ≤ 9223372036854775807)
    (hu : ownR 5 1 (intR .u8) w1 F (wr.heap.size + 1) u row) (hb1 : Below wr.heap.size wr w1) (o : Obj) :
    ∃ F1, ClSt 68 otherR w (w1.alloc o) F F1 cells v ps ∧ otherR (w1.alloc o) F1 [.int .i64 t, u] ⟨t, row⟩ ∧ KeepF wr Fk (w1.alloc o) F1 := by
  have hsz := hb1.size
  refine ⟨fun b => Fk b ∨ u.ownBlock = some b, S.more otherR_ok (hb1.alloc hsz o) u.ownBlock fun g hg => ?_, otherR_ok.keep (other_new hu S.grew.sub ht) (fun b hb => Below.heap_alloc w1 o b ?_) fun _ h => h, S.moreF (hb1.alloc hsz o) _⟩
  · have := hu.lt g hg
    simp
    omega
  · rcases hb with h1 | h1
    · have := S.grew.lt b h1
      omega
    · exact (hu.lt b h1).2
theorem ClSt.store {α : Type} {e : TypeId} {R : Rep α} (ok : R.Ok 2) {w X : World} {F Fk : Nat → Prop} {cells : List Value} {v : Value} {ps : List α} (h : ClSt e R w X F Fk cells v ps) (hF : InF F w) (j : Nat) (u : Value) :
    ClSt e R w (X.setCell ⟨w.heap.size, j, none⟩ u) F Fk (cells.set j u) v ps ∧ KeepF X Fk (X.setCell ⟨w.heap.size, j, none⟩ u) Fk := by
  have hs := h.size
  obtain ⟨z, hz, hzb⟩ := h.res
  have hgs := grownBy_setCell X w.heap.size j u
  have hFk : ∀ b, Fk b → b ≠ w.heap.size := fun b hb e => by
    rcases h.hi b hb with h1 | h1
    · have := hF b h1
      omega
    · omega
  have hkp : ∀ b, Fk b → (X.setCell ⟨w.heap.size, j, none⟩ u).heap[b]? = X.heap[b]? := fun b hb => hgs.block b (h.grew.lt b hb) (fun e => hFk b hb (by cases e; rfl))
  refine ⟨⟨h.blk.set_ j u, ⟨z, hz, hzb.grown hgs (by omega)⟩, h.own.kept ok hgs (.inr (fun e => by have := (h.own.lt _ e).1; omega)) hkp (fun _ h => h) ?_, h.grew.grown hgs (fun g hg => by cases hg; exact Nat.le_refl _), h.hi⟩, hkp, fun _ h => h⟩
  obtain ⟨cells', h1, h2, h3⟩ := h.own
  exact h3
theorem ClSt.pushF {α : Type} {e : TypeId} {R : Rep α} {w X w2 : World} {F Fk : Nat → Prop} {cells : List Value} {v v2 : Value} {ps : List α} (h : ClSt e R w X F Fk cells v ps) (hF : InF F w) (hg : X.grownBy w2 v.ownBlock) (j : Nat) : KeepF X Fk (w2.setCell ⟨w.heap.size, j, none⟩ v2) Fk := by
  have hs := h.size
  have hX := hg.size
  have hgs := grownBy_setCell w2 w.heap.size j v2
  refine ⟨fun b hb => (hgs.block b (by have := h.grew.lt b hb; omega) fun e => ?_).trans (hg.block b (h.grew.lt b hb) fun e => ?_), fun _ h => h⟩
  · cases e
    rcases h.hi _ hb with h1 | h1
    · have := hF _ h1
      omega
    · omega
  · obtain ⟨cells', _, _, h3⟩ := h.own
    exact h3 b e.symm hb

set_option maxHeartbeats 16000000 in
theorem attr_Clone (w : World) (F : Nat → Prop) (cs : List Value) (a : Attrs) (h : attrsR w F cs a) (hF : InF F w) (hk : attrsLt a) :
    Calls Try.prog 16 #[.agg cs.toArray] w fun e w' => ∃ cs' F', e = .returned (.agg cs'.toArray) ∧ attrsR w' F' cs' a ∧ Grew w F w' F' := by
  obtain ⟨p, cm, ot, rfl, hp, hc, ho, hb⟩ := h
  obtain ⟨A1, c1, rfl⟩ := hp.val
  obtain ⟨A2, c2, rfl⟩ := hc.val
  obtain ⟨A3, c3, rfl⟩ := ho.val
  have HP := Lib.hid hp
  have HC := Lib.hid hc
  have HO := Lib.hid ho
  have HB := Lib.hid hb
  have HK := Lib.hid hk
  have hn1 : a.path.length * 32 ≤ 140737488351232 := hk.1.1
  have hn2 : a.comms.length * 8 ≤ 140737488351232 := hk.2.1.1
  have hn3 : a.others.length * 32 ≤ 140737488351232 := hk.2.2.1
  obtain ⟨i0, hi0, hz0, hz1, hz2⟩ := info_parts int_info
  obtain ⟨is, his, hs0, hs1, hs2⟩ := info_parts seg_info
  obtain ⟨io, hio, ho0, ho1, ho2⟩ := info_parts other_info
  obtain ⟨ib, hib, hb0, hb1, hb2⟩ := info_parts byte_info
  clear hp hc ho hb hk
  go_enter Try.func16, Try.ntmps16
  go_wp2_with fail
  go_loopw [14] (fun i wr => ∃ (k : Nat) (v : Value) (Fk : Nat → Prop), k ≤ a.path.length ∧ i = .int .i64 k ∧ Hid (ClSt 38 segR w wr F Fk [.int .i64 a.has, .int .i64 a.origin, v, .int .u32 a.nextHop, .int .i64 a.med, .int .i64 a.loc, .int .i64 a.aggrAs, .int .u32 a.aggrId, .slice A2 a.comms.length c2, .slice A3 a.others.length c3] v (a.path.take k))) (fun i _ => a.path.length - (intOf i).toNat)
  case atStart => exact ⟨0, .slice none 0 0, F, Nat.zero_le _, rfl, Lib.hid ⟨(Blk.new w _ _).alloc _, ⟨_, rfl, Blk.new2 w _ _ _⟩, ownR.nil, ((Grew.refl hF).alloc _).alloc _, fun b hb => .inl hb⟩⟩
  case round =>
    obtain ⟨k, v, Fk, hkn, rfl, S⟩ := hrel
    by_cases hlt : k < a.path.length
    · obtain ⟨s, hx⟩ : ∃ s, a.path[k]? = some s := ⟨_, List.getElem?_eq_getElem hlt⟩
      obtain ⟨b, off, cs', rfl, hFb, ⟨v5, rfl, hv5⟩, hr⟩ := HP.out.at_ hx
      obtain ⟨A5, c5, rfl⟩ := hv5.val
      have hB := S.out.grew.below
      have q0 := (hB.cell (p := ⟨b, off + k * 2, none⟩) (hF b hFb)).trans (hr 0 _ rfl)
      have q1 := (hB.cell (p := ⟨b, off + k * 2 + 1, none⟩) (hF b hFb)).trans (hr 1 _ rfl)
      have HV5 := Lib.hid hv5
      have hrow : s.row.length * 8 ≤ 140737488351232 := (HK.out.1.2 s (List.mem_of_getElem? hx)).1
      have Hx := Lib.hid hx
      have hsz : w.heap.size + 2 ≤ wr.heap.size := by obtain ⟨z, _, hz⟩ := S.out.res; have := hz.lt; omega
      have hcell := S.out.blk.cell
      have d2 : wr.cell? ⟨w.heap.size, 2, none⟩ = some v := hcell 2
      have hl1 : w.heap.size < wr.heap.size := by omega
      clear hr hx hv5 hcell
      have hd : decide (k < a.path.length) = true := decide_eq_true hlt
      have hbw : Below wr.heap.size wr (wr.alloc (.cells #[.bool s.set, .slice A5 s.row.length c5] 38)).drew := ((Below.refl _ _).alloc (Nat.le_refl _) _).drew
      have HL5 := Lib.hid ((listR_ok (intR_ok .i64)).below HV5.out (below_step hB hbw) hF)
      have HF5 := Lib.hid (hF.below (below_step hB hbw))
      have h63 : Hid (([] : List Int).length + s.row.length ≤ 9223372036854775807) := by show _ ≤ _; simp; omega
      have h64 : Hid ((([] : List Int).length + s.row.length) * 8 ≤ 140737488355328) := by show _ ≤ _; simp; omega
      have h65 : Hid ((a.path.take k).length + 1 ≤ 9223372036854775807) := by show _ ≤ _; rw [List.length_take]; omega
      have h66 : Hid (((a.path.take k).length + 1) * 32 ≤ 140737488355328) := by show _ ≤ _; rw [List.length_take]; omega
      have h67 : Hid (wr.heap.size + 1 ≤ (wr.alloc (.cells #[.bool s.set, .slice A5 s.row.length c5] 38)).drew.heap.size) := by show _ ≤ _; simp
      have Hbw := Lib.hid hbw
      have Hlen : Hid ((a.path.take k ++ [(⟨s.set, s.row⟩ : Seg)]).length = k + 1) := by show _ = _; simp; omega
      have Hstep : Hid (a.path.take (k + 1) = a.path.take k ++ [(⟨s.set, s.row⟩ : Seg)]) := by show _ = _; rw [List.take_add_one, Hx.out]; rfl
      have Hrow := Lib.hid hrow
      clear hrow hbw
      go_wp2_with fail
      go_region_law (first
        | (refine step_pushA _ (by rfl) (.const (.slice none 0 0)) (.tmp 23) 28 (by rfl) (intR_ok .i64) (wr.heap.size + 1) 3 i0 _ 8 Try.underlying28 hi0 hz0 hz1 hz2 (by rfl) (by decide) F _ [] (by rfl) ownR.nil A5 s.row.length c5 s.row (by rfl) HL5.out HF5.out h63.out h64.out h67.out ?_
           intro u w1 hu hgu hvu
           rw [List.nil_append] at hu
           obtain ⟨Au, cu, rfl⟩ := hu.form
           have hb1 := below_step Hbw.out (grownBy_none hgu)
           have hsz1 := hb1.size
           have hl2 : w.heap.size < w1.heap.size := Nat.lt_of_lt_of_le hl1 hsz1
           have e2 := (hb1.cell (p := ⟨w.heap.size, 2, none⟩) hl1).trans d2
           have hkb := (Blk.new wr 38 #[.bool s.set, .slice A5 s.row.length c5]).drew.below (grownBy_none hgu) (by simp)
           have e3 := hkb.cell 0
           have e4 := hkb.cell 1
           obtain ⟨F1, hs1, hg1⟩ := clone_seg S.out s.set s.row _ hu hb1 (.cells #[.bool s.set, .slice Au s.row.length cu] 38)
           have HS1 := Lib.hid hs1
           have HG1 := Lib.hid hg1
           clear hs1 hg1
           clear hu hgu hvu hkb hb1)
        | (refine step_pushB _ (by rfl) (.tmp 19) (.tmp 26) 27 (by rfl) segR_ok (w.heap.size + 2) 38 is _ 32 Try.underlying27 his hs0 hs1 hs2 (by rfl) (by decide) _ _ _ (by rfl) HS1.out.own ⟨_, 0, none⟩ 1 1 _ [⟨s.set, s.row⟩] (by rfl) (by rfl) (news_of_range (rangeAt_new _ _ _)) (Groups.single HG1.out) HS1.out.grew.lt h65.out h66.out HS1.out.size ?_
           intro v2 w2 hv2 hg2 hn2
           obtain ⟨Av, cv, rfl⟩ := ownR.form_n hv2 Hlen.out
           obtain ⟨hc2, hf2⟩ := HS1.out.field hg2 2
           have HS2 := Lib.hid (HS1.out.push segR_ok hF hv2 hg2 2)
           clear hv2 hg2 hn2))
      all_goals (go_wp2_with fail)
      all_goals (go_roundw)
      all_goals first
        | exact ⟨k + 1, _, _, by omega, by go_num, Lib.hid (by rw [Hstep.out]; exact HS2.out)⟩
        | (simp [intOf]; omega)
    · obtain rfl : a.path.length = k := by omega
      rw [List.take_of_length_le (Nat.le_refl _)] at S
      obtain ⟨S2, hpath⟩ := S.out.next (e' := 68) (R' := otherR) segR_ok
      have hcell := S2.blk.cell
      have d8 : wr.cell? ⟨w.heap.size, 8, none⟩ = some (.slice A2 a.comms.length c2) := hcell 8
      have hB := S2.grew.below
      have HC2 := Lib.hid ((listR_ok (intR_ok .i64)).below HC.out hB hF)
      have HF2 := Lib.hid (hF.below hB)
      have h63 : Hid (([] : List Int).length + a.comms.length ≤ 9223372036854775807) := by show _ ≤ _; simp; omega
      have h64 : Hid ((([] : List Int).length + a.comms.length) * 8 ≤ 140737488355328) := by show _ ≤ _; simp; omega
      have HS2 := Lib.hid S2
      have HPa := Lib.hid hpath
      clear hcell S2 hpath S
      go_wp2_with (at_builtin; refine wpList_pushA _ rfl (.const (.slice none 0 0)) (.tmp 31) 28 rfl (intR_ok .i64) wr.heap.size 3 i0 _ 8 Try.underlying28 hi0 hz0 hz1 hz2 rfl (by decide) F _ [] rfl ownR.nil A2 a.comms.length c2 a.comms rfl HC2.out HF2.out h63.out h64.out (Nat.le_refl _) ?_)
      intro u w1 hu hgu _
      obtain ⟨Au, cu, rfl⟩ := hu.form
      have hb1 := grownBy_none hgu
      have S3 := HS2.out.more otherR_ok hb1 (Value.slice Au a.comms.length cu).ownBlock fun g hg => hu.lt g hg
      have k3 := HS2.out.moreF hb1 (Value.slice Au a.comms.length cu).ownBlock
      have hcm : listR 1 (intR .i64) w1 (fun b => (_ ∨ _) ∨ _) [.slice Au a.comms.length cu] a.comms := (listR_ok (intR_ok .i64)).keep (hu.freeze (intR_ok _)) (fun _ _ => rfl) fun b hb => by
        rcases hb with hb | hb
        · exact .inl (HS2.out.grew.sub b hb)
        · exact .inr hb
      have hsz := HS2.out.size
      have hsw := hb1.size
      have hl1 : w.heap.size < w1.heap.size := by omega
      have hl0 : w.heap.size < wr.heap.size := by omega
      have e8 := (hb1.cell (p := ⟨w.heap.size, 8, none⟩) hl0).trans d8
      have f8 := S3.blk.free 8
      obtain ⟨S4, k4⟩ := S3.store otherR_ok hF 8 (.slice Au a.comms.length cu)
      have HG0 := Lib.hid (show listR 2 segR (w1.setCell ⟨w.heap.size, 8, none⟩ (.slice Au a.comms.length cu)) _ [_] a.path ∧ listR 1 (intR .i64) (w1.setCell ⟨w.heap.size, 8, none⟩ (.slice Au a.comms.length cu)) _ [.slice Au a.comms.length cu] a.comms from
        ⟨(listR_ok segR_ok).kept HPa.out (k3.trans k4), (listR_ok (intR_ok _)).kept hcm k4⟩)
      have HS4 := Lib.hid S4
      have e9 : (w1.setCell ⟨w.heap.size, 8, none⟩ (.slice Au a.comms.length cu)).cell? ⟨w.heap.size, 9, none⟩ = some (.slice A3 a.others.length c3) := S4.blk.cell 9
      have f9 := S4.blk.free 9
      have e9' : w1.cell? ⟨w.heap.size, 9, none⟩ = some (.slice A3 a.others.length c3) := S3.blk.cell 9
      have f9' := S3.blk.free 9
      obtain ⟨S5, k5⟩ := S4.store otherR_ok hF 9 (.slice none 0 0)
      have HS5 := Lib.hid S5
      have HK5 := Lib.hid k5
      clear S3 k3 S4 k4 S5 k5 hu hgu hcm hb1 d8
      go_wp2_with fail
      go_loopw [39] (fun i wr => ∃ (k : Nat) (v9 : Value) (Fk : Nat → Prop), k ≤ a.others.length ∧ i = .int .i64 k ∧ Hid (ClSt 68 otherR w wr F Fk [.int .i64 a.has, .int .i64 a.origin, v, .int .u32 a.nextHop, .int .i64 a.med, .int .i64 a.loc, .int .i64 a.aggrAs, .int .u32 a.aggrId, .slice Au a.comms.length cu, v9] v9 (a.others.take k)) ∧ Hid (listR 2 segR wr Fk [v] a.path ∧ listR 1 (intR .i64) wr Fk [.slice Au a.comms.length cu] a.comms)) (fun i _ => a.others.length - (intOf i).toNat)
      case atStart => exact ⟨0, .slice none 0 0, _, Nat.zero_le _, rfl, HS5, Lib.hid ⟨(listR_ok segR_ok).kept HG0.out.1 HK5.out, (listR_ok (intR_ok _)).kept HG0.out.2 HK5.out⟩⟩
      case round =>
        obtain ⟨k, v, Fk, hkn, rfl, S, HG⟩ := hrel
        by_cases hlt : k < a.others.length
        · obtain ⟨s, hx⟩ : ∃ s, a.others[k]? = some s := ⟨_, List.getElem?_eq_getElem hlt⟩
          obtain ⟨b, off, cs', rfl, hFb, ⟨v5, rfl, ht5, hv5⟩, hr⟩ := HO.out.at_ hx
          obtain ⟨A5, c5, rfl⟩ := hv5.val
          have hB := S.out.grew.below
          have q0 := (hB.cell (p := ⟨b, off + k * 2, none⟩) (hF b hFb)).trans (hr 0 _ rfl)
          have q1 := (hB.cell (p := ⟨b, off + k * 2 + 1, none⟩) (hF b hFb)).trans (hr 1 _ rfl)
          have HV5 := Lib.hid hv5
          have hrow : s.value.length * 1 ≤ 140737488351232 := (HK.out.2.2.2 s (List.mem_of_getElem? hx)).1
          have Hx := Lib.hid hx
          have hsz : w.heap.size + 2 ≤ wr.heap.size := by obtain ⟨z, _, hz⟩ := S.out.res; have := hz.lt; omega
          have hcell := S.out.blk.cell
          have d2 : wr.cell? ⟨w.heap.size, 9, none⟩ = some v := hcell 9
          have hl1 : w.heap.size < wr.heap.size := by omega
          have HT5 := Lib.hid ht5
          clear hr hx hv5 hcell ht5
          have hd : decide (k < a.others.length) = true := decide_eq_true hlt
          have hbw : Below wr.heap.size wr (wr.alloc (.cells #[.int .i64 s.type, .slice A5 s.value.length c5] 68)).drew := ((Below.refl _ _).alloc (Nat.le_refl _) _).drew
          have HL5 := Lib.hid ((listR_ok (intR_ok .u8)).below HV5.out (below_step hB hbw) hF)
          have HF5 := Lib.hid (hF.below (below_step hB hbw))
          have h63 : Hid (([] : List Int).length + s.value.length ≤ 9223372036854775807) := by show _ ≤ _; simp; omega
          have h64 : Hid ((([] : List Int).length + s.value.length) * 1 ≤ 140737488355328) := by show _ ≤ _; simp; omega
          have h65 : Hid ((a.others.take k).length + 1 ≤ 9223372036854775807) := by show _ ≤ _; rw [List.length_take]; omega
          have h66 : Hid (((a.others.take k).length + 1) * 32 ≤ 140737488355328) := by show _ ≤ _; rw [List.length_take]; omega
          have h67 : Hid (wr.heap.size + 1 ≤ (wr.alloc (.cells #[.int .i64 s.type, .slice A5 s.value.length c5] 68)).drew.heap.size) := by show _ ≤ _; simp
          have Hbw := Lib.hid hbw
          have Hlen : Hid ((a.others.take k ++ [(⟨s.type, s.value⟩ : Other)]).length = k + 1) := by show _ = _; simp; omega
          have Hstep : Hid (a.others.take (k + 1) = a.others.take k ++ [(⟨s.type, s.value⟩ : Other)]) := by show _ = _; rw [List.take_add_one, Hx.out]; rfl
          have Hrow := Lib.hid hrow
          clear hrow hbw
          go_wp2_with fail
          go_region_law (first
            | (refine step_pushA _ (by rfl) (.const (.slice none 0 0)) (.tmp 48) 66 (by rfl) (intR_ok .u8) (wr.heap.size + 1) 5 ib _ 1 Try.underlying66 hib hb0 hb1 hb2 (by rfl) (by decide) F _ [] (by rfl) ownR.nil A5 s.value.length c5 s.value (by rfl) HL5.out HF5.out h63.out h64.out h67.out ?_
               intro u w1 hu hgu hvu
               rw [List.nil_append] at hu
               obtain ⟨Au, cu, rfl⟩ := hu.form
               have hb1 := below_step Hbw.out (grownBy_none hgu)
               have hsz1 := hb1.size
               have hl2 : w.heap.size < w1.heap.size := Nat.lt_of_lt_of_le hl1 hsz1
               have e2 := (hb1.cell (p := ⟨w.heap.size, 9, none⟩) hl1).trans d2
               have hkb := (Blk.new wr 68 #[.int .i64 s.type, .slice A5 s.value.length c5]).drew.below (grownBy_none hgu) (by simp)
               have e3 := hkb.cell 0
               have e4 := hkb.cell 1
               obtain ⟨F1, hs1, hg1, kk1⟩ := clone_other S.out s.type s.value _ HT5.out hu hb1 (.cells #[.int .i64 s.type, .slice Au s.value.length cu] 68)
               have HS1 := Lib.hid hs1
               have HG1 := Lib.hid hg1
               have HK1 := Lib.hid kk1
               clear hs1 hg1 kk1
               clear hu hgu hvu hkb hb1)
            | (refine step_pushB _ (by rfl) (.tmp 44) (.tmp 51) 29 (by rfl) otherR_ok (w.heap.size + 2) 68 io _ 32 Try.underlying29 hio ho0 ho1 ho2 (by rfl) (by decide) _ _ _ (by rfl) HS1.out.own ⟨_, 0, none⟩ 1 1 _ [⟨s.type, s.value⟩] (by rfl) (by rfl) (news_of_range (rangeAt_new _ _ _)) (Groups.single HG1.out) HS1.out.grew.lt h65.out h66.out HS1.out.size ?_
               intro v2 w2 hv2 hg2 hn2
               obtain ⟨Av, cv, rfl⟩ := ownR.form_n hv2 Hlen.out
               obtain ⟨hc2, hf2⟩ := HS1.out.field hg2 9
               have HK2 := Lib.hid (HK1.out.trans (HS1.out.pushF (v2 := .slice Av (k + 1) cv) hF hg2 9))
               have HS2 := Lib.hid (HS1.out.push otherR_ok hF hv2 hg2 9)
               clear hv2 hg2 hn2))
          all_goals (go_wp2_with fail)
          all_goals (go_roundw)
          all_goals first
            | exact ⟨k + 1, _, _, by omega, by go_num, Lib.hid (by rw [Hstep.out]; exact HS2.out), Lib.hid ⟨(listR_ok segR_ok).kept HG.out.1 HK2.out, (listR_ok (intR_ok _)).kept HG.out.2 HK2.out⟩⟩
            | (simp [intOf]; omega)
        · obtain rfl : a.others.length = k := by omega
          rw [List.take_of_length_le (Nat.le_refl _)] at S
          obtain ⟨S6, hot⟩ := S.out.next (e' := 68) (R' := otherR) otherR_ok
          have k6 : KeepF wr Fk wr _ := ⟨fun b _ => rfl, fun b hb => Or.inl (b := (v.ownBlock = some b)) hb⟩
          obtain ⟨z, hz, hzb⟩ := S6.res
          have hcB := S6.blk.cell
          have HR := Lib.hid (show attrsR wr _ [.int .i64 a.has, .int .i64 a.origin, _, .int .u32 a.nextHop, .int .i64 a.med, .int .i64 a.loc, .int .i64 a.aggrAs, .int .u32 a.aggrId, .slice Au a.comms.length cu, v] a from
            ⟨_, _, _, rfl, (listR_ok segR_ok).kept HG.out.1 k6, (listR_ok (intR_ok _)).kept HG.out.2 k6, hot, HB.out⟩)
          have HS6 := Lib.hid S6
          have Hz := Lib.hid hz
          clear S6 hot k6 hz
          go_wp2_with (refine wpList_store_blk rfl 31 (.tmp 2) (.tmp 55) rfl (w.heap.size + 1) 31 _ _ rfl rfl hzb ?hsz ?hi ?h1 ?_)
          case hsz => exact Hz.out
          case hi => rfl
          case h1 => exact attrsR_ok.one HR.out
          intro w9 hblk9 hg9
          go_wp2_with fail
          refine bodyPost_ret (results_cell_row rfl _ _ (w.heap.size + 1) 31 _ (0, 0) _ rfl hblk9.heap Try.underlying31 rfl rfl) rfl ?_
          have hFk : ∀ b, (fun b => Fk b ∨ v.ownBlock = some b) b → b ≠ w.heap.size + 1 := fun b hb e => by
            rcases HS6.out.hi b hb with h1 | h1
            · have := hF b h1
              omega
            · omega
          exact ⟨_, _, rfl, attrsR_ok.keep HR.out (fun b hb => hg9.block b (HS6.out.grew.lt b hb) (fun e => hFk b hb (by cases e; rfl))) (fun _ h => h), HS6.out.grew.grown hg9 (fun g hg => by cases hg; omega)⟩
end Go.Proofs.Ytngfabnkgpidjaa
