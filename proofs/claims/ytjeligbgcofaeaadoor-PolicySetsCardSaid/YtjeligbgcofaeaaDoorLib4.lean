/- Words for memory, gathered (printed by lib4.py): nothing here speaks of one program. -/
import Derived.Test.YtjeligbgcofaeaaDoorLib3
namespace Go.Proofs.YtjeligbgcofaeaaDoor
open Go.RowKit
set_option linter.unusedVariables false
set_option linter.unusedSimpArgs false

theorem take_snoc {α : Type} {l : List α} {k : Nat} {x : α} (h : l[k]? = some x) : l.take (k + 1) = l.take k ++ [x] := by
  have hk : k < l.length := (List.getElem?_eq_some_iff.1 h).1
  rw [List.take_succ_eq_append_getElem hk, (List.getElem?_eq_some_iff.1 h).2]

theorem all_take {α : Type} {p : α → Bool} {l : List α} {k : Nat} {x : α} (hx : l[k]? = some x) (h : (l.take k).all p = true) (hp : p x = true) : (l.take (k + 1)).all p = true := by
  rw [List.take_add_one, hx, List.all_append, h]
  simp [hp]

theorem all_whole {α : Type} {p : α → Bool} {l : List α} {k : Nat} (hk : l.length ≤ k) (h : (l.take k).all p = true) : l.all p = true := by
  rwa [List.take_of_length_le hk] at h

theorem own_made2 (w : World) (o : Obj) (t : TypeId) (size : Nat) : ((w.alloc o).alloc (.cells #[] t)).ownsRow (w.heap.size + 1) t size (.slice (some ⟨w.heap.size + 1, 0, none⟩) 0 0) 0 [] := by
  have h := World.ownsRow_made (base := w.heap.size + 1) (e := t) (size := size) (w.alloc o) #[] 0 (by simp) (by simp [maxLen]) (by simp)
  simp only [World.size_alloc] at h
  exact h

theorem own_val {w : World} {base : Nat} {e : TypeId} {size n : Nat} {v : Value} {xs : List Value} (h : w.ownsRow base e size v n xs) : ∃ A c, v = .slice A n c := by
  rcases h.2 with ⟨hv, h0⟩ | ⟨g, cap, cur, hv, _⟩
  · exact ⟨none, 0, by rw [hv, h0]⟩
  · exact ⟨_, _, hv⟩

/-- an owned row of ints, frozen -/
theorem ints_freeze {w : World} {F : Nat → Prop} {base n : Nat} {e : TypeId} {k : IntKind} {v : Value} {xs : List Int} (h : w.ownsRow base e 1 v n (xs.map (Value.int k))) (hb : ∀ x ∈ xs, k.min ≤ x ∧ x ≤ k.max) :
    listR 1 (intR k) w (fun b => F b ∨ v.ownBlock = some b) [v] xs := by
  have hn : n = xs.length := by have := h.1; simp at this; omega
  subst hn
  have ho : ownR e 1 (intR k) w (fun _ => False) base v xs := ⟨_, h, Groups.ints hb, fun _ _ h => h⟩
  exact (listR_ok (intR_ok k)).keep (ho.freeze (intR_ok k)) (fun _ _ => rfl) fun b hb => by
    rcases hb with h | h
    · exact h.elim
    · exact .inr h

/-- a slice literal of one element, frozen -/
theorem listR_one {α : Type} {size : Nat} {R : Rep α} (ok : R.Ok size) {w : World} {F : Nat → Prop} {cs : List Value} {x : α} (h : R w F cs x) {g : Nat} (hr : w.rangeAt g 0 cs) :
    listR size R w (fun b => F b ∨ b = g) [.slice (some ⟨g, 0, none⟩) 1 1] [x] := by
  refine ⟨_, _, rfl, Nat.le_refl _, by simp [maxLen], fun k y hk => ?_⟩
  cases k with
  | zero =>
    simp at hk
    subst hk
    exact ⟨g, 0, cs, rfl, .inr rfl, ok.keep h (fun _ _ => rfl) (fun _ h => .inl h), by simpa using hr⟩
  | succ k => simp at hk

theorem Groups.single {α : Type} {R : Rep α} {w : World} {F : Nat → Prop} {cs : List Value} {x : α} (h : R w F cs x) : Groups R w F cs [x] := ⟨cs, [], by simp, h, rfl⟩

theorem own_form {w : World} {base : Nat} {e : TypeId} {size n : Nat} {v : Value} {xs : List Value} (h : w.ownsRow base e size v n xs) (hn : 0 < n) : ∃ g c, v = .slice (some ⟨g, 0, none⟩) n c ∧ base ≤ g ∧ g < w.heap.size := by
  rcases h.2 with ⟨_, h0⟩ | ⟨g, cap, cur, hv, hb, hg, _⟩
  · omega
  · exact ⟨g, cap, hv, hb, (Array.getElem?_eq_some_iff.1 hg).1⟩

theorem listR_lit {α : Type} {size : Nat} {R : Rep α} (ok : R.Ok size) {w : World} {F : Nat → Prop} {cells : List Value} {xs : List α} (h : Groups R w F cells xs) {g n : Nat} (hn : xs.length = n) (hm : n ≤ 1048576) (hr : w.rangeAt g 0 cells) :
    listR size R w (fun b => F b ∨ b = g) [.slice (some ⟨g, 0, none⟩) n n] xs := by
  subst hn
  refine ⟨_, _, rfl, Nat.le_refl _, by simp only [maxLen]; omega, fun k y hk => ?_⟩
  obtain ⟨cs, hR, hc⟩ := h.at_ ok hk
  exact ⟨g, 0, cs, rfl, .inr rfl, ok.keep hR (fun _ _ => rfl) (fun _ h => .inl h), fun j u hu => by
    have := hr (k * size + j) u (hc j u hu)
    simpa [Nat.add_assoc] using this⟩

theorem Grew.alloc {w w1 : World} {F F1 : Nat → Prop} (h : Grew w F w1 F1) (o : Obj) : Grew w F (w1.alloc o) F1 :=
  ⟨h.below.alloc h.below.size _, h.sub, h.fresh, h.lt.mono (by simp)⟩

/-- a new block, frozen -/
theorem Grew.freeze {w w1 : World} {F F1 : Nat → Prop} (h : Grew w F w1 F1) {g : Nat} (hg : w.heap.size ≤ g) (hl : g < w1.heap.size) : Grew w F w1 (fun b => F1 b ∨ b = g) :=
  ⟨h.below, fun b hb => .inl (h.sub b hb), fun b hb => by
    rcases hb with hb | rfl
    · exact h.fresh b hb
    · exact .inr hg, fun b hb => by
    rcases hb with hb | rfl
    · exact h.lt b hb
    · exact hl⟩

def NoF : Nat → Prop := fun _ => False

theorem noF_in (w : World) : InF NoF w := fun _ h => h.elim

theorem below_dn2 {n : Nat} {a w : World} (h : Below n a w) (k : Nat) : Below n a (w.drewN k) := h.trans ⟨rfl, rfl, rfl, Nat.le_refl _, fun _ _ => rfl⟩

theorem all_snoc {p : Nat → Bool} {l : List Nat} {k i : Nat} (hx : l[k]? = some i) : (l.take (k + 1)).all p = ((l.take k).all p && p i) := by
  rw [List.take_add_one, hx, List.all_append]
  simp

theorem fil_yes {p : Nat → Bool} {l : List Nat} {k i : Nat} (hx : l[k]? = some i) (hp : p i = true) : (l.take (k + 1)).filter p = (l.take k).filter p ++ [i] := by
  rw [List.take_add_one, hx, List.filter_append]
  simp [hp]

theorem fil_no {p : Nat → Bool} {l : List Nat} {k i : Nat} (hx : l[k]? = some i) (hp : p i = false) : (l.take (k + 1)).filter p = (l.take k).filter p := by
  rw [List.take_add_one, hx, List.filter_append]
  simp [hp]

theorem cells_row_new (w : World) (t : TypeId) (cs : List Value) : ∀ j u, cs[j]? = some u → (w.alloc (.cells cs.toArray t)).cell? (Addr.add ⟨w.heap.size, 0, none⟩ j) = some u := fun j u hu => by
  have h := rangeAt_new w t cs j u hu
  rw [Addr.add_mid]
  exact h

theorem own_ne (v : Value) : v.ownBlock = none ∨ v.ownBlock ≠ none := by cases v.ownBlock <;> simp

theorem own_made1 (w : World) (t : TypeId) (size : Nat) : (w.alloc (.cells #[] t)).ownsRow w.heap.size t size (.slice (some ⟨w.heap.size, 0, none⟩) 0 0) 0 [] :=
  World.ownsRow_made (base := w.heap.size) (e := t) (size := size) w #[] 0 (by simp) (by simp [maxLen]) (by simp)

/-- an append onto a row of the call's own, and where the new row lies -/
theorem wpList_push_own {P : Program} (w : World) {ops : Array Oper} {rest : List Oper} {o : Oper} {a : Act} {Q : Exit → Act → World → Prop} (hgd : o.guard = none) (s x : Operand) (t : TypeId)
    (ho : o.op = .call { callee := .builtin .append, args := #[s, x], argTypes := #[t, t] }) 
    (base : Nat) (e : TypeId) (i : TypeInfo) (z : Value) (size bytes : Nat) (ht : P.underlying t = some (.slice e)) (hi : P.info? e = some i) (hz : i.zero = some z)
    (hsize : i.size = size) (hby : i.bytes = bytes) (hzs : z.cells.size = size) (hsz : 0 < size)
    (v : Value) (n : Nat) (xs : List Value) (hs : a.eval s = v) (hown : w.ownsRow base e size v n xs)
    (ad : Addr) (m c : Nat) (news : List Value) (hx : a.eval x = .slice (some ad) m c) (hnl : news.length = m * size) (hnews : ∀ j u, news[j]? = some u → w.cell? (ad.add j) = some u) (h1 : ∀ u ∈ news, u.oneCell' = true)
    (h63 : n + m ≤ 4194304) (hbytes : bytes ≤ 4096) (hbase : base ≤ w.heap.size)
    (h : ∀ v' w', w'.ownsRow base e size v' (n + m) (xs ++ news) → w.grownBy w' v.ownBlock → (v'.ownBlock = v.ownBlock ∨ v'.ownBlock = some w.heap.size) → wpList P ops Q rest (a.put o.dst v') w') : wpList P ops Q (o :: rest) a w := by
  refine wpList_plain hgd fun K hK => ?_
  have hbb : (n + m) * bytes ≤ 140737488355328 := by
    have : (n + m) * bytes ≤ 4194304 * 4096 := Nat.mul_le_mul h63 hbytes
    omega
  obtain ⟨v', w', hrun, r1, r2, _, r4⟩ := run_append_own_at (P := P) w base t o.type e i z size bytes ht hi hz hsize hby hzs hsz v n xs hown ad m c news hnl hnews h1 (by simp only [maxLen]; omega) hbb hbase
  unfold Oper.wp execOp
  simp only [ho, resolve, invoke, builtin, Sem.run_bind, Sem.run_pure, Result.andThen_ok, List.map_toArray, List.map_cons, List.map_nil, hs, hx, hrun]
  exact hK _ _ (h v' w' r1 r2 r4)

theorem Blk.setCells {t : TypeId} {g : Nat} : ∀ (vs : List Value) {w : World} {cs : List Value} (o : Nat), Blk w g t cs.toArray → o + vs.length ≤ cs.length → Blk (w.setCells g o vs) g t (cs.take o ++ vs ++ cs.drop (o + vs.length)).toArray
  | [], w, cs, o, h, hl => by simpa [World.setCells] using h
  | v :: vs, w, cs, o, h, hl => by
    simp only [List.length_cons] at hl
    have h1 := Blk.setCells vs (o + 1) (h.set_ o v) (by simp; omega)
    have e : (cs.set o v).take (o + 1) ++ vs ++ (cs.set o v).drop (o + 1 + vs.length) = cs.take o ++ v :: vs ++ cs.drop (o + (v :: vs).length) := by
      rw [List.drop_set_of_lt (by omega)]
      have : (cs.set o v).take (o + 1) = cs.take o ++ [v] := by
        rw [take_snoc (x := v) (by rw [List.getElem?_set_self (by omega)]), List.take_set_of_le (Nat.le_refl _)]
      rw [this, List.length_cons, show o + 1 + vs.length = o + (vs.length + 1) by omega]
      simp
    rw [e] at h1
    exact h1

theorem grownBy_setCells (g : Nat) : ∀ (vs : List Value) (w : World) (o : Nat), w.grownBy (w.setCells g o vs) (some g)
  | [], w, o => grownBy_refl w g
  | v :: vs, w, o => grownBy_trans (grownBy_setCell w g o v) (grownBy_setCells g vs _ (o + 1))

/-- another block was frozen, made since -/
theorem ownR.more {α : Type} {e : TypeId} {size : Nat} {R : Rep α} {w w' : World} {F : Nat → Prop} {base : Nat} {v : Value} {xs : List α} (ok : R.Ok size) (h : ownR e size R w F base v xs) (hg : Below w.heap.size w w') (hF : InF F w) (ub : Option Nat) (hu : ∀ g, ub = some g → w.heap.size ≤ g) :
    ownR e size R w' (fun b => F b ∨ ub = some b) base v xs := by
  refine h.kept ok (grownBy_of_below hg) (by cases h : v.ownBlock <;> simp) (fun b hb => hg.block b (hF b hb)) (fun b hb => .inl hb) fun g hv hb => ?_
  obtain ⟨cells, h1, h2, h3⟩ := h
  rcases hb with hb | hb
  · exact h3 g hv hb
  · have := (h1.lt g hv).2
    have := hu g hb
    omega

theorem ownR.form_n {α : Type} {e : TypeId} {size : Nat} {R : Rep α} {w : World} {F : Nat → Prop} {base n : Nat} {v : Value} {xs : List α} (h : ownR e size R w F base v xs) (hn : xs.length = n) : ∃ A c, v = .slice A n c := by
  subst hn
  exact h.form

/-- what is frozen stands, and stays frozen -/
def KeepF (X : World) (Fk : Nat → Prop) (X' : World) (Fk' : Nat → Prop) : Prop := (∀ b, Fk b → X'.heap[b]? = X.heap[b]?) ∧ ∀ b, Fk b → Fk' b

theorem KeepF.trans {X Y Z : World} {F G H : Nat → Prop} (h : KeepF X F Y G) (k : KeepF Y G Z H) : KeepF X F Z H := ⟨fun b hb => (k.1 b (h.2 b hb)).trans (h.1 b hb), fun b hb => k.2 b (h.2 b hb)⟩

theorem Rep.Ok.kept {α : Type} {size : Nat} {R : Rep α} (ok : R.Ok size) {w w' : World} {F F' : Nat → Prop} {cs : List Value} {x : α} (h : R w F cs x) (k : KeepF w F w' F') : R w' F' cs x := ok.keep h k.1 k.2

theorem Groups.split {α : Type} {size : Nat} {R : Rep α} (ok : R.Ok size) {w : World} {F : Nat → Prop} : ∀ {cells : List Value} {xs : List α}, Groups R w F cells xs → ∀ {k : Nat} {x : α}, xs[k]? = some x →
    ∃ c1 cs c2, cells = c1 ++ cs ++ c2 ∧ Groups R w F c1 (xs.take k) ∧ R w F cs x ∧ Groups R w F c2 (xs.drop (k + 1)) ∧ c1.length = k * size
  | _, [], _, k, x, hx => by simp at hx
  | _, y :: r, ⟨cs, rest, he, hr, hg⟩, 0, x, hx => by
    simp at hx
    subst hx
    subst he
    exact ⟨[], cs, rest, by simp, rfl, hr, hg, by simp⟩
  | _, y :: r, ⟨cs, rest, he, hr, hg⟩, k + 1, x, hx => by
    subst he
    obtain ⟨c1, ds, c2, h1, h2, h3, h4, h5⟩ := Groups.split ok hg (k := k) (x := x) (by simpa using hx)
    subst h1
    exact ⟨cs ++ c1, ds, c2, by simp, ⟨cs, c1, rfl, hr, h2⟩, h3, h4, by rw [List.length_append, ok.len hr, h5, Nat.succ_mul]; omega⟩

theorem Groups.join {α : Type} {R : Rep α} {w : World} {F : Nat → Prop} {c1 cs c2 : List Value} {xs : List α} {k : Nat} {x : α} (h1 : Groups R w F c1 (xs.take k)) (h2 : R w F cs x) (h3 : Groups R w F c2 (xs.drop (k + 1))) (hk : k < xs.length) : Groups R w F (c1 ++ cs ++ c2) (xs.set k x) := by
  rw [List.set_eq_take_append_cons_drop, if_pos hk, List.append_assoc]
  exact Groups.append (show Groups R w F (cs ++ c2) (x :: xs.drop (k + 1)) from ⟨cs, c2, rfl, h2, h3⟩) h1

theorem mid_set (c1 m old m2 c2 vs : List Value) (hl : vs.length = old.length) :
    (c1 ++ (m ++ old ++ m2) ++ c2).take (c1.length + m.length) ++ vs ++ (c1 ++ (m ++ old ++ m2) ++ c2).drop (c1.length + m.length + vs.length) = c1 ++ (m ++ vs ++ m2) ++ c2 := by
  have e1 : c1 ++ (m ++ old ++ m2) ++ c2 = (c1 ++ m) ++ (old ++ (m2 ++ c2)) := by simp
  have e2 : c1.length + m.length = (c1 ++ m).length := by simp
  rw [e1, e2, List.take_left, hl, ← List.drop_drop, List.drop_left, List.drop_left]
  simp

theorem mid_one (c1 m c2 : List Value) (j : Nat) (u : Value) (hj : j < m.length) : (c1 ++ m ++ c2).set (c1.length + j) u = c1 ++ m.set j u ++ c2 := by
  rw [List.append_assoc, List.set_append_right _ _ (by omega), show c1.length + j - c1.length = j by omega, List.set_append_left _ _ hj, List.append_assoc]

theorem blk_mid {w : World} {g : Nat} {t : TypeId} {c1 m old m2 c2 : List Value} (h : Blk w g t (c1 ++ (m ++ old ++ m2) ++ c2).toArray) : w.rangeAt g (c1.length + m.length) old := fun j v hv => by
  have hj := (List.getElem?_eq_some_iff.1 hv).1
  have e : (c1 ++ (m ++ old ++ m2) ++ c2)[c1.length + m.length + j]? = old[j]? := by
    have e1 : c1 ++ (m ++ old ++ m2) ++ c2 = (c1 ++ m) ++ (old ++ (m2 ++ c2)) := by simp
    rw [e1, List.getElem?_append_right (by simp), List.getElem?_append_left (by simp; omega)]
    congr 1
    simp
  rw [h.cell, List.getElem?_toArray, e, hv]

theorem blk_put {w : World} {g o : Nat} {t : TypeId} {c1 m old m2 c2 : List Value} (h : Blk w g t (c1 ++ (m ++ old ++ m2) ++ c2).toArray) (ho : c1.length + m.length = o) (vs : List Value) (hl : vs.length = old.length) : Blk (w.setCells g o vs) g t (c1 ++ (m ++ vs ++ m2) ++ c2).toArray := by
  subst ho
  have := Blk.setCells vs (c1.length + m.length) h (by simp only [List.length_append]; omega)
  rwa [mid_set c1 m old m2 c2 vs hl] at this

theorem blk_there {w : World} {g : Nat} {t : TypeId} {cs : List Value} (h : Blk w g t cs.toArray) {o n : Nat} (hn : o + n ≤ cs.length) : w.there g o n := fun j hj =>
  ⟨by rw [h.cell, List.getElem?_toArray, List.getElem?_eq_getElem (by omega)]; rfl, h.free _⟩

def lenOf : Value → Nat
  | .slice _ n _ => n
  | _ => 0

end Go.Proofs.YtjeligbgcofaeaaDoor
