/- pset.merge. -/
import Derived.Test.YthiodgnklfbmjaaPsP
import Derived.Deep.CutBlock
namespace Go.Proofs.Ythiodgnklfbmjaa
open Go.RowKit
set_option linter.unusedVariables false

def onP (b : Bool) (p : Pfx) : List Pfx := if b then [p] else []
def mergeL (kp : Bool → Bool → Bool) : List Pfx → List Pfx → List Pfx
  | [], [] => []
  | [], y :: ys => onP (kp false true) y ++ mergeL kp [] ys
  | x :: xs, [] => onP (kp true false) x ++ mergeL kp xs []
  | x :: xs, y :: ys => if cmpP x y < 0 then onP (kp true false) x ++ mergeL kp xs (y :: ys) else if cmpP x y = 0 then onP (kp true true) y ++ mergeL kp xs ys else onP (kp false true) y ++ mergeL kp (x :: xs) ys
termination_by xs ys => xs.length + ys.length
def mergeE (L : List Pfx) : Int := if 4096 < L.length then 3 else 0
def mergeR (L : List Pfx) : List Pfx := if 4096 < L.length then [] else L
theorem mergeL_len (kp : Bool → Bool → Bool) : ∀ (n : Nat) (xs ys : List Pfx), xs.length + ys.length ≤ n → (mergeL kp xs ys).length ≤ xs.length + ys.length := by
  have ho : ∀ b p, (onP b p).length ≤ 1 := fun b p => by cases b <;> simp [onP]
  intro n
  induction n with
  | zero =>
    intro xs ys h
    have h1 : xs = [] := List.eq_nil_of_length_eq_zero (by omega)
    have h2 : ys = [] := List.eq_nil_of_length_eq_zero (by omega)
    subst h1; subst h2
    simp [mergeL]
  | succ n ih =>
    intro xs ys h
    match xs, ys with
    | [], [] => simp [mergeL]
    | [], y :: ys =>
      rw [mergeL, List.length_append]
      have := ih [] ys (by simp at h ⊢; omega)
      have := ho (kp false true) y
      simp at *; omega
    | x :: xs, [] =>
      rw [mergeL, List.length_append]
      have := ih xs [] (by simp at h ⊢; omega)
      have := ho (kp true false) x
      simp at *; omega
    | x :: xs, y :: ys =>
      rw [mergeL]
      have h1 := ih xs (y :: ys) (by simp at h ⊢; omega)
      have h2 := ih xs ys (by simp at h ⊢; omega)
      have h3 := ih (x :: xs) ys (by simp at h ⊢; omega)
      have := ho (kp true false) x
      have := ho (kp true true) y
      have := ho (kp false true) y
      split
      · rw [List.length_append]; simp at *; omega
      · split <;> (rw [List.length_append]; simp at *; omega)

/-- the state of the merge -/
structure MrgR (w : World) (F : Nat → Prop) (wr : World) (kp : Bool → Bool → Bool) (L : List Pfx) (x y o : Value) (m n : Nat) : Prop where
  below : Below w.heap.size w wr
  one : Blk wr (w.heap.size + 1 + 1) 26 #[.slice none 0 0]
  data : ∃ xs ys os : List Pfx, xs.length = m ∧ ys.length = n ∧ listR 2 pfxR wr F [x] xs ∧ listR 2 pfxR wr F [y] ys ∧ ownR 35 2 pfxR wr F (w.heap.size + 1 + 1 + 1) o os ∧ os ++ mergeL kp xs ys = L
theorem pfx_head {w : World} {F : Nat → Prop} {A : Option Addr} {n c : Nat} {xs : List Pfx} (hl : listR 2 pfxR w F [.slice A (n + 1) c] xs) : ∃ a l b off t, A = some ⟨b, off, none⟩ ∧ xs = ⟨a, l⟩ :: t ∧ F b ∧ (Pfx.mk a l).Fits ∧ w.cell? ⟨b, off, none⟩ = some (.int .u32 a) ∧ w.cell? ⟨b, off + 1, none⟩ = some (.int .i64 l) ∧ n + 1 ≤ c ∧ c ≤ 9223372036854775807 ∧
    listR 2 pfxR w F [.slice (if c = 1 then some ⟨b, off, none⟩ else some ⟨b, off + 2, none⟩) n (c - 1)] t := by
  obtain ⟨h1, h2, h3⟩ := hl.len
  obtain ⟨a, l, b, off, hx, rfl, hFb, hf, c1, c2⟩ := pfx_at hl (k := 0) (by omega)
  match xs, hx with
  | p :: t, hx =>
    simp only [List.getElem?_cons_zero, Option.some.injEq] at hx
    subst hx
    have hp := hl.part (i := 1) (j := n + 1) (by omega) (Nat.le_refl _)
    have ht : List.drop 1 (List.take (n + 1) (Pfx.mk a l :: t)) = t := by
      simp at h1
      simp [List.take_of_length_le (show t.length ≤ n by omega)]
    rw [ht] at hp
    refine ⟨a, l, b, off, t, rfl, rfl, hFb, hf, by simpa using c1, by simpa using c2, h2, by unfold maxLen at h3; omega, ?_⟩
    by_cases hc : c = 1
    · rw [if_pos hc]
      have h0 : n = 0 := by omega
      subst h0
      have h1' : 0 + 1 = (Pfx.mk a l :: t).length := h1
      rw [List.length_cons] at h1'
      have : t = [] := List.eq_nil_of_length_eq_zero (by omega)
      subst this
      exact ⟨_, _, rfl, by simp, by subst hc; unfold maxLen; simp, fun k x hx => by simp at hx⟩
    · rw [if_neg hc]
      simpa using hp
theorem run_tail (b off n c : Nat) (hc : n + 1 ≤ c) (hm : c ≤ 9223372036854775807) (w : World) : (Instr.slice 22 (.slice (some ⟨b, off, none⟩) (n + 1) c) (some (.int .i64 1)) none none).run Try.prog w = .ok (.slice (if c = 1 then some ⟨b, off, none⟩ else some ⟨b, off + 2, none⟩) n (c - 1)) w := by
  by_cases h : c = 1
  · subst h
    rw [if_pos rfl]
    go_simp
    obtain rfl : n = 0 := by omega
    rw [if_pos (by omega)]
  · rw [if_neg h]
    go_simp
    intro h
    omega
theorem pfx_headK {w : World} {F : Nat → Prop} {b off n c : Nat} {a l : Int} {t : List Pfx} (hl : listR 2 pfxR w F [.slice (some ⟨b, off, none⟩) (n + 1) c] (⟨a, l⟩ :: t)) : w.cell? ⟨b, off, none⟩ = some (.int .u32 a) ∧ w.cell? ⟨b, off + 1, none⟩ = some (.int .i64 l) ∧
    ∃ A', (∀ w', (Instr.slice 22 (.slice (some ⟨b, off, none⟩) (n + 1) c) (some (.int .i64 1)) none none).run Try.prog w' = .ok (.slice A' n (c - 1)) w') ∧ listR 2 pfxR w F [.slice A' n (c - 1)] t := by
  obtain ⟨a', l', b', off', t', he, hx, _, _, h1, h2, h3, h4, h5⟩ := pfx_head hl
  cases hx
  simp only [Option.some.injEq, Addr.mk.injEq] at he
  obtain ⟨rfl, rfl, _⟩ := he
  exact ⟨h1, h2, _, fun w' => run_tail b off n c h3 h4 w', h5⟩
theorem MrgR.small {w : World} {F : Nat → Prop} {wr : World} {kp : Bool → Bool → Bool} {L : List Pfx} {x y o : Value} {m n : Nat} (h : MrgR w F wr kp L x y o m n) (hL : L.length ≤ 8192) {X Y O : List Pfx} (h1 : X.length = m) (h2 : Y.length = n) (h3 : O ++ mergeL kp X Y = L) : Hid (O.length ≤ 8192) := by
  show _ ≤ _
  rw [← h3, List.length_append] at hL
  omega
/-- one prefix more is under way: it lies in a block of its own -/
structure MrgT (w : World) (F : Nat → Prop) (W : World) (o : Value) (os : List Pfx) (g : Nat) (p : Array Value) (x : Value) (xs : List Pfx) (y : Value) (ys : List Pfx) : Prop where
  below : Below w.heap.size w W
  one : Blk W (w.heap.size + 1 + 1) 26 #[.slice none 0 0]
  own : ownR 35 2 pfxR W F (w.heap.size + 1 + 1 + 1) o os
  pb : Blk W g 35 p
  gp : w.heap.size + 1 + 1 < g
  no : o.ownBlock ≠ some g
  lX : listR 2 pfxR W F [x] xs
  lY : listR 2 pfxR W F [y] ys
theorem MrgT.start {w : World} {F : Nat → Prop} {wr W0 : World} {o : Value} {os : List Pfx} {x : Value} {xs : List Pfx} {y : Value} {ys : List Pfx} (h1 : Below w.heap.size w wr) (h2 : Blk wr (w.heap.size + 1 + 1) 26 #[.slice none 0 0]) (h3 : ownR 35 2 pfxR wr F (w.heap.size + 1 + 1 + 1) o os) (h4 : listR 2 pfxR wr F [x] xs) (h5 : listR 2 pfxR wr F [y] ys) (hF : InF F w) (hb : Below wr.heap.size wr W0) :
    MrgT w F (W0.alloc (.cells #[.int .u32 0, .int .i64 0] 35)) o os W0.heap.size #[.int .u32 0, .int .i64 0] x xs y ys := by
  have hb2 : Below wr.heap.size wr (W0.alloc (.cells #[.int .u32 0, .int .i64 0] 35)) := hb.alloc hb.size _
  have hFr := hF.below h1
  have h6 := h2.lt
  have h7 := hb.size
  exact ⟨below_step h1 hb2, h2.below hb2 h2.lt, h3.below pfxR_ok hb2 hFr, Blk.new _ _ _, by omega, fun e => by have := (h3.lt _ e).2; omega, (listR_ok pfxR_ok).below h4 hb2 hFr, (listR_ok pfxR_ok).below h5 hb2 hFr⟩
theorem MrgT.setX {w : World} {F : Nat → Prop} {W : World} {o : Value} {os : List Pfx} {g : Nat} {p : Array Value} {x x' : Value} {xs xs' : List Pfx} {y : Value} {ys : List Pfx} (h : MrgT w F W o os g p x xs y ys) (hF : InF F w) (hx : listR 2 pfxR W F [x'] xs') : MrgT w F W o os g p x' xs' y ys := ⟨h.below, h.one, h.own, h.pb, h.gp, h.no, hx, h.lY⟩
theorem MrgT.setY {w : World} {F : Nat → Prop} {W : World} {o : Value} {os : List Pfx} {g : Nat} {p : Array Value} {x : Value} {xs : List Pfx} {y y' : Value} {ys ys' : List Pfx} (h : MrgT w F W o os g p x xs y ys) (hF : InF F w) (hy : listR 2 pfxR W F [y'] ys') : MrgT w F W o os g p x xs y' ys' := ⟨h.below, h.one, h.own, h.pb, h.gp, h.no, h.lX, hy⟩
theorem MrgT.grown {w : World} {F : Nat → Prop} {W W' : World} {o : Value} {os : List Pfx} {g : Nat} {p p' : Array Value} {x : Value} {xs : List Pfx} {y : Value} {ys : List Pfx} (h : MrgT w F W o os g p x xs y ys) (hF : InF F w) (hg : W.grownBy W' (some g)) (hp : Blk W' g 35 p') : MrgT w F W' o os g p' x xs y ys := by
  have hk : ∀ b, F b → W'.heap[b]? = W.heap[b]? := fun b hb => hg.block b (hF.below h.below b hb) fun e => by cases e; have := hF _ hb; have := h.gp; omega
  exact ⟨below_grown h.below hg (by have := h.gp; omega), h.one.grown hg (by have := h.gp; omega), h.own.kept pfxR_ok hg (.inr h.no) hk (fun _ h => h) (by obtain ⟨_, _, _, h3⟩ := h.own; exact h3), hp, h.gp, h.no, (listR_ok pfxR_ok).keep h.lX hk fun _ h => h, (listR_ok pfxR_ok).keep h.lY hk fun _ h => h⟩
theorem MrgT.store {w : World} {F : Nat → Prop} {W : World} {o : Value} {os : List Pfx} {g : Nat} {a b u v : Value} {x : Value} {xs : List Pfx} {y : Value} {ys : List Pfx} (h : MrgT w F W o os g #[a, b] x xs y ys) (hF : InF F w) : MrgT w F ((W.setCell ⟨g, 0, none⟩ u).setCell ⟨g, 1, none⟩ v).drew o os g #[u, v] x xs y ys :=
  h.grown hF (grownBy_step (grownBy_trans (grownBy_setCell _ _ _ _) (grownBy_setCell _ _ _ _)) (Below.refl _ _).drew) h.pb.set2.drew
theorem MrgT.done {w : World} {F : Nat → Prop} {W : World} {o : Value} {os : List Pfx} {g : Nat} {p : Array Value} {x : Value} {xs : List Pfx} {y : Value} {ys : List Pfx} {kp : Bool → Bool → Bool} {L : List Pfx} {m n : Nat} (h : MrgT w F W o os g p x xs y ys) (hm : xs.length = m) (hn : ys.length = n) (hL : os ++ mergeL kp xs ys = L) : MrgR w F W kp L x y o m n :=
  ⟨h.below, h.one, xs, ys, os, hm, hn, h.lX, h.lY, h.own, hL⟩
structure MrgN (w : World) (F : Nat → Prop) (W W' : World) (o : Value) (os : List Pfx) (g : Nat) (p : Array Value) (x : Value) (xs : List Pfx) (y : Value) (ys : List Pfx) (q : Pfx) : Prop extends MrgT w F W' o os g p x xs y ys where
  news : ∀ j u, [Value.int .u32 q.addr, .int .i64 q.len][j]? = some u → W'.cell? (Addr.add ⟨W.heap.size, 0, none⟩ j) = some u
  inF : InF F W'
  base : w.heap.size + 1 + 1 + 1 ≤ W'.heap.size
theorem MrgT.news {w : World} {F : Nat → Prop} {W : World} {o : Value} {os : List Pfx} {g : Nat} {p : Array Value} {x : Value} {xs : List Pfx} {y : Value} {ys : List Pfx} (h : MrgT w F W o os g p x xs y ys) (hF : InF F w) (q : Pfx) (hp : p = q.vals) : MrgN w F W (W.alloc (.cells #[.int .u32 q.addr, .int .i64 q.len] 35)) o os g p x xs y ys q := by
  have hb : Below W.heap.size W (W.alloc (.cells #[.int .u32 q.addr, .int .i64 q.len] 35)) := (Below.refl _ _).alloc (Nat.le_refl _) _
  have hFW := hF.below h.below
  exact ⟨⟨below_step h.below hb, h.one.below hb h.one.lt, h.own.below pfxR_ok hb hFW, h.pb.below hb h.pb.lt, h.gp, h.no, (listR_ok pfxR_ok).below h.lX hb hFW, (listR_ok pfxR_ok).below h.lY hb hFW⟩, cells_row_new W 35 [.int .u32 q.addr, .int .i64 q.len], hFW.below hb, by have := h.one.lt; simp; omega⟩
theorem MrgN.push {w : World} {F : Nat → Prop} {W W' W2 : World} {o o' : Value} {os os' : List Pfx} {g : Nat} {p : Array Value} {x : Value} {xs : List Pfx} {y : Value} {ys : List Pfx} {q : Pfx} (h : MrgN w F W W' o os g p x xs y ys q) (hF : InF F w) (hv : ownR 35 2 pfxR W2 F (w.heap.size + 1 + 1 + 1) o' os') (hg : W'.grownBy W2 o.ownBlock) (hn : o'.ownBlock = o.ownBlock ∨ o'.ownBlock = some W'.heap.size) : MrgT w F W2 o' os' g p x xs y ys := by
  obtain ⟨_, _, _, hno⟩ := h.own
  have hk : ∀ b, F b → W2.heap[b]? = W'.heap[b]? := fun b hb => hg.block b (h.inF b hb) fun e => hno b e.symm hb
  have hlt := fun g' (e : o.ownBlock = some g') => (h.own.lt g' e).1
  refine ⟨below_grownO h.below hg fun g' e => by have := hlt g' e; omega, h.one.grownO' hg fun g' e => by have := hlt g' e; omega, hv, h.pb.grownO' hg fun g' e e' => h.no (by rw [e, e']), h.gp, fun e => ?_, (listR_ok pfxR_ok).keep h.lX hk fun _ h => h, (listR_ok pfxR_ok).keep h.lY hk fun _ h => h⟩
  rcases hn with h1 | h1
  · exact h.no (h1 ▸ e)
  · rw [h1] at e
    cases e
    exact absurd h.pb.lt (Nat.lt_irrefl _)
theorem ownR.len {w : World} {F : Nat → Prop} {base n c : Nat} {A : Option Addr} {xs : List Pfx} (h : ownR 35 2 pfxR w F base (.slice A n c) xs) : n = xs.length := by
  obtain ⟨A', c', e⟩ := h.form
  cases e
  rfl
theorem mrg_end {w : World} {F : Nat → Prop} {wr : World} {o : Value} {os : List Pfx} (hF : InF F w) (h1 : Below w.heap.size w wr) (h2 : Blk wr (w.heap.size + 1 + 1) 26 #[.slice none 0 0]) (h3 : ownR 35 2 pfxR wr F (w.heap.size + 1 + 1 + 1) o os) (v : Value) :
    Blk (wr.setCell ⟨w.heap.size + 1 + 1, 0, none⟩ v) (w.heap.size + 1 + 1) 26 #[v] ∧ Grew w F (wr.setCell ⟨w.heap.size + 1 + 1, 0, none⟩ v) (fun b => F b ∨ o.ownBlock = some b) ∧ listR 2 pfxR (wr.setCell ⟨w.heap.size + 1 + 1, 0, none⟩ v) (fun b => F b ∨ o.ownBlock = some b) [o] os := by
  have hg := grownBy_setCell wr (w.heap.size + 1 + 1) 0 v
  have hlt : ∀ b, (F b ∨ o.ownBlock = some b) → b < wr.heap.size ∧ b ≠ w.heap.size + 1 + 1 ∧ (F b ∨ w.heap.size ≤ b) := fun b hb => by
    rcases hb with h | h
    · have := hF b h; have := h1.size; exact ⟨by omega, by omega, .inl h⟩
    · have := h3.lt b h; exact ⟨by omega, by omega, .inr (by omega)⟩
  refine ⟨h2.set_ (cs := [_]) 0 v, ⟨below_grown h1 hg (by omega), fun _ h => .inl h, fun b hb => (hlt b hb).2.2, fun b hb => Nat.lt_of_lt_of_le (hlt b hb).1 hg.size⟩, ?_⟩
  exact (listR_ok pfxR_ok).keep (h3.freeze pfxR_ok) (fun b hb => hg.block b (hlt b hb).1 fun e => (hlt b hb).2.1 (by cases e; rfl)) fun _ h => h
set_option maxRecDepth 100000 in
set_option maxHeartbeats 8000000 in
theorem set_mergeOr (kp : Bool → Bool → Bool) (hkp : ∀ a b W, Calls Try.prog 45 #[.bool a, .bool b] W fun e w' => e = .returned (.bool (kp a b)) ∧ w' = W) (w : World) (F : Nat → Prop) (A : Option Addr) (n c : Nat) (xs : List Pfx) (B : Option Addr) (m d : Nat) (ys : List Pfx) (hl : listR 2 pfxR w F [.slice A n c] xs) (hu : listR 2 pfxR w F [.slice B m d] ys) (hF : InF F w) (hn : n ≤ 4096) (hm : m ≤ 4096) :
    Calls Try.prog 44 #[.agg #[.slice A n c], .agg #[.slice B m d], .func (.func 45) #[] #[]] w fun e w' => ∃ A' n' c' F', e = .returned (.tuple #[.agg #[.slice A' n' c'], .int .i64 (mergeE (mergeL kp xs ys))]) ∧ Grew w F w' F' ∧ listR 2 pfxR w' F' [.slice A' n' c'] (mergeR (mergeL kp xs ys)) := by
  obtain ⟨L, hL⟩ : ∃ L, L = mergeL kp xs ys := ⟨_, rfl⟩
  have HL := Lib.hid hL
  have hb : Below w.heap.size w (((w.alloc (.cells #[.slice A n c] 26)).alloc (.cells #[.slice B m d] 26)).alloc (.cells #[.slice none 0 0] 26)) := (((Below.refl _ _).alloc (Nat.le_refl _) _).alloc (by simp) _).alloc (by simp; omega) _
  have hk : Blk (((w.alloc (.cells #[.slice A n c] 26)).alloc (.cells #[.slice B m d] 26)).alloc (.cells #[.slice none 0 0] 26)) (w.heap.size + 1 + 1) 26 #[.slice none 0 0] := by
    have := Blk.new ((w.alloc (.cells #[.slice A n c] 26)).alloc (.cells #[.slice B m d] 26)) 26 #[.slice none 0 0]
    simpa using this
  rw [← hL]
  have HS := Lib.hid (And.intro hk (And.intro hb (And.intro ((listR_ok pfxR_ok).below hl hb hF) ((listR_ok pfxR_ok).below hu hb hF))))
  have Hn := Lib.hid (And.intro hl.len.1 hu.len.1)
  have Hkp := Lib.hid hkp
  have hLs : Hid (L.length ≤ 8192) := by
    show _ ≤ _
    rw [hL]
    have := mergeL_len kp (xs.length + ys.length) xs ys (Nat.le_refl _)
    have := hl.len.1
    have := hu.len.1
    omega
  obtain ⟨ip_, hip, hp0, hp1, hp2⟩ := info_parts pfx_info
  clear hl hu hb hk hL hkp
  go_enter Try.func44, Try.ntmps44
  go_wp2_with fail
  go_quiet (fail)
  go_wp2_with fail
  have hb1 := below_dn2 HS.out.2.1 nq
  refine wp_gen (fun W => MrgR w F W kp L (.slice A n c) (.slice B m d) (.slice none 0 0) n m) ⟨hb1, HS.out.1.dn _, xs, ys, [], Hn.out.1.symm, Hn.out.2.symm, (listR_ok pfxR_ok).below HS.out.2.2.1 (below_dn2 (Below.refl _ _) _) (hF.below HS.out.2.1), (listR_ok pfxR_ok).below HS.out.2.2.2 (below_dn2 (Below.refl _ _) _) (hF.below HS.out.2.1), ownR.nil, by rw [HL.out]; rfl⟩ ?_
  intro W hW
  have HW := Lib.hid hW
  clear hW hb1 HS HL Hn
  go_loopw [9, 10, 8, 11, 12] (fun x y o _ _ wr => ∃ A1 n1 c1 B1 m1 d1 C1 k1 g1, x = .slice A1 n1 c1 ∧ y = .slice B1 m1 d1 ∧ o = .slice C1 k1 g1 ∧ n1 ≤ 4096 ∧ m1 ≤ 4096 ∧ Hid (MrgR w F wr kp L (.slice A1 n1 c1) (.slice B1 m1 d1) (.slice C1 k1 g1) n1 m1)) (fun x y _ _ _ _ => (match x with | .slice _ n _ => n | _ => 0) + (match y with | .slice _ n _ => n | _ => 0))
  case atStart => exact ⟨_, _, _, _, _, _, _, _, _, rfl, rfl, rfl, hn, hm, HW⟩
  case round =>
    clear HW
    obtain ⟨A1, n1, c1, B1, m1, d1, C1, k1, g1, rfl, rfl, rfl, hn1, hm1, HW⟩ := hrel
    have hkp0 := Lib.hid Hkp.out
    clear Hkp
    obtain ⟨hW1, hW2, XS, YS, O, hX, hY, lX, lY, oO, hL⟩ := HW.out
    have HO : Hid (O.length ≤ 8192) := HW.out.small hLs.out hX hY hL
    have HE := Lib.hid hL
    have HV := Lib.hid (And.intro hW1 (And.intro hW2 oO))
    clear HW hW1 hW2 oO hL
    rcases Nat.eq_zero_or_pos n1 with h1 | h1
    · subst h1
      obtain rfl : XS = [] := List.eq_nil_of_length_eq_zero hX
      rcases Nat.eq_zero_or_pos m1 with h2 | h2
      · subst h2
        obtain rfl : YS = [] := List.eq_nil_of_length_eq_zero hY
        have hO : Hid (O = L) := Lib.hid (by have := HE.out; rw [mergeL, List.append_nil] at this; exact this)
        rw [hO.out] at HV HO
        have HK := Lib.hid HV.out.2.1
        have q0 := HK.out.cell 0
        have q1 := HK.out.free 0
        obtain rfl : k1 = L.length := HV.out.2.2.len
        have HZ : ∀ v, Hid (Blk (wr.setCell ⟨w.heap.size + 1 + 1, 0, none⟩ v) (w.heap.size + 1 + 1) 26 #[v] ∧ Grew w F (wr.setCell ⟨w.heap.size + 1 + 1, 0, none⟩ v) (fun b => F b ∨ (Value.slice C1 L.length g1).ownBlock = some b) ∧ listR 2 pfxR (wr.setCell ⟨w.heap.size + 1 + 1, 0, none⟩ v) (fun b => F b ∨ (Value.slice C1 L.length g1).ownBlock = some b) [.slice C1 L.length g1] L) := fun v => Lib.hid (mrg_end hF HV.out.1 HV.out.2.1 HV.out.2.2 v)
        have HZ' := Lib.hid HZ
        clear HZ lX lY
        by_cases h40 : 4096 < L.length
        · have hd4 : decide ((L.length : Int) > 4096) = true := decide_eq_true (by omega)
          have E1 : Hid (mergeE L = 3) := by show _ = _; unfold mergeE; rw [if_pos h40]
          have E2 : Hid (mergeR L = []) := by show _ = _; unfold mergeR; rw [if_pos h40]
          go_wp2_with fail
          refine bodyPost_ret (results_cell_row_tmp rfl _ _ (w.heap.size + 1 + 1) 26 _ (0, 0) _ rfl (HZ'.out (.slice none 0 0)).out.1.heap Try.underlying26 rfl rfl) rfl ?_
          exact ⟨_, _, _, _, by rw [E1.out]; rfl, (HZ'.out _).out.2.1, by rw [E2.out]; exact listR.nil⟩
        · have hd4 : decide ((L.length : Int) > 4096) = false := decide_eq_false (by omega)
          have E1 : Hid (mergeE L = 0) := by show _ = _; unfold mergeE; rw [if_neg h40]
          have E2 : Hid (mergeR L = L) := by show _ = _; unfold mergeR; rw [if_neg h40]
          go_wp2_with fail
          refine bodyPost_ret (results_cell_row_tmp rfl _ _ (w.heap.size + 1 + 1) 26 _ (0, 0) _ rfl (HZ'.out (.slice C1 L.length g1)).out.1.heap Try.underlying26 rfl rfl) rfl ?_
          exact ⟨_, _, _, _, by rw [E1.out]; rfl, (HZ'.out _).out.2.1, by rw [E2.out]; exact (HZ'.out _).out.2.2⟩
      · obtain ⟨m, rfl⟩ : ∃ m, m1 = m + 1 := ⟨m1 - 1, by omega⟩
        obtain ⟨a2, l2, b2, off2, TY, rfl, rfl, hFb2, hf2, _, _, hd1, hd2, _⟩ := pfx_head lY
        have y0 : decide ((m + 1 : Nat) > (0 : Int)) = true := decide_eq_true (by omega)
        have y1 : ((((m + 1 : Nat) : Int)) == 0) = false := by rw [beq_eq_false_iff_ne]; omega
        have hm1' : ([] : List Pfx).length = 0 := rfl
        have hn1' : TY.length = m := by simp at hY; omega
        obtain ⟨TX, XS, YS, hTX, hXS, hYS⟩ : ∃ TX XS YS : List Pfx, TX = [] ∧ XS = [] ∧ YS = ⟨a2, l2⟩ :: TY := ⟨_, _, _, rfl, rfl, rfl⟩
        have HD : Hid (mergeL kp XS YS = onP (kp false true) ⟨a2, l2⟩ ++ mergeL kp TX TY) := by show _ = _; rw [hTX, hXS, hYS, mergeL]
        rw [← hXS, ← hYS] at HE
        rw [← hTX] at hm1'
        have HT0 := MrgT.start HV.out.1 HV.out.2.1 HV.out.2.2 lX lY hF (Below.refl wr.heap.size wr)
        rw [← hTX] at HT0
        have HT0' := Lib.hid HT0
        clear lX lY HT0 hX hY hTX hXS hYS HV
        go_upto_region 11 with fail
        refine wp_gen (fun W => MrgT w F W _ _ _ _ _ _ _ _) HT0'.out ?_
        intro W T
        clear HT0'
        go_upto_region 14 with fail
        obtain ⟨e1Y, e2Y, AY, g1Y, TY⟩ := pfx_headK T.lY
        have q0 := T.pb.cell 0
        have q1 := T.pb.cell 1
        have q2 := T.pb.free 0
        have q3 := T.pb.free 1
        have HT := Lib.hid T
        have HZ := Lib.hid TY
        clear T TY
        go_region
        go_upto_region 15 with fail
        refine wp_gen (fun W => MrgT w F W _ _ _ _ _ _ _ _) ((HT.out.setY hF HZ.out).store hF) ?_
        intro W T
        clear HT HZ q0 q1 q2 q3 e1Y e2Y g1Y
        have Hk := Lib.hid (hkp0.out false true)
        have HT := Lib.hid T
        have q0 := T.pb.cell 0
        have q1 := T.pb.cell 1
        clear T
        cases hv : kp false true
        · rw [hv] at Hk
          have hD' : Hid (mergeL kp XS YS = mergeL kp TX TY) := Lib.hid (by rw [HD.out, hv]; rfl)
          go_wp2_with fail
          refine (Hk.out _).mono ?_
          rintro e w' ⟨rfl, rfl⟩
          go_wp2_with fail
          go_roundw
          case rel => exact ⟨_, _, _, _, _, _, _, _, _, rfl, rfl, rfl, by omega, by omega, Lib.hid (HT.out.done hm1' hn1' (by rw [← hD'.out]; exact HE.out))⟩
          case measure => simp; try omega
        · rw [hv] at Hk
          have hD' : Hid (mergeL kp XS YS = (Pfx.mk a2 l2) :: mergeL kp TX TY) := Lib.hid (by rw [HD.out, hv]; rfl)
          go_upto_region 16 with fail
          refine (Hk.out _).mono ?_
          rintro e w' ⟨rfl, rfl⟩
          go_upto_region 16 with fail
          have HX := Lib.hid (HT.out.news hF (Pfx.mk a2 l2) rfl)
          have hfp : Hid (Groups pfxR (w'.alloc (.cells #[.int .u32 (Pfx.mk a2 l2).addr, .int .i64 (Pfx.mk a2 l2).len] 35)) F [.int .u32 (Pfx.mk a2 l2).addr, .int .i64 (Pfx.mk a2 l2).len] [(Pfx.mk a2 l2)]) := Lib.hid (Groups.single ⟨rfl, by assumption⟩)
          have h63 : Hid (O.length + 1 ≤ 9223372036854775807) := by show _ ≤ _; have := HO.out; omega
          have h64 : Hid ((O.length + 1) * 16 ≤ 140737488355328) := by show _ ≤ _; have := HO.out; omega
          go_wp2_with (at_builtin; refine wpList_pushB _ rfl (.tmp 60) (.tmp 62) 22 rfl pfxR_ok (w.heap.size + 1 + 1 + 1) 35 ip_ _ 16 Try.underlying22 hip hp0 hp1 hp2 rfl (by decide) F _ O rfl HX.out.own ⟨w'.heap.size, 0, none⟩ 1 1 [.int .u32 (Pfx.mk a2 l2).addr, .int .i64 (Pfx.mk a2 l2).len] [(Pfx.mk a2 l2)] rfl rfl HX.out.news hfp.out HX.out.inF h63.out h64.out HX.out.base ?_)
          intro v5 w5 hv5 hg5 hn5
          obtain ⟨A5, c5, rfl⟩ := hv5.form
          have HY := Lib.hid (HX.out.push hF hv5 hg5 (by rw [World.size_alloc]; exact hn5))
          clear hv5 hg5 hn5
          go_wp2_with fail
          go_roundw
          case rel => exact ⟨_, _, _, _, _, _, _, _, _, rfl, rfl, rfl, by omega, by omega, Lib.hid (HY.out.done hm1' hn1' (by rw [List.append_assoc, List.singleton_append, ← hD'.out]; exact HE.out))⟩
          case measure => simp; try omega
    · obtain ⟨n, rfl⟩ : ∃ n, n1 = n + 1 := ⟨n1 - 1, by omega⟩
      obtain ⟨a1, l1, b1, off1, TX, rfl, rfl, hFb1, hf1, u1, u2, hc1, hc2, _⟩ := pfx_head lX
      have y0 : decide ((n + 1 : Nat) > (0 : Int)) = true := decide_eq_true (by omega)
      have y1 : ((((n + 1 : Nat) : Int)) == 0) = false := by rw [beq_eq_false_iff_ne]; omega
      have hm1' : TX.length = n := by simp at hX; omega
      rcases Nat.eq_zero_or_pos m1 with h2 | h2
      · subst h2
        obtain rfl : YS = [] := List.eq_nil_of_length_eq_zero hY
        have hn1' : ([] : List Pfx).length = 0 := rfl
        obtain ⟨TY, XS, YS, hTY, hXS, hYS⟩ : ∃ TY XS YS : List Pfx, TY = [] ∧ YS = [] ∧ XS = ⟨a1, l1⟩ :: TX := ⟨_, _, _, rfl, rfl, rfl⟩
        have HD : Hid (mergeL kp XS YS = onP (kp true false) ⟨a1, l1⟩ ++ mergeL kp TX TY) := by show _ = _; rw [hTY, hXS, hYS, mergeL]
        rw [← hXS, ← hYS] at HE
        rw [← hTY] at hn1'
        have HT0 := MrgT.start HV.out.1 HV.out.2.1 HV.out.2.2 lX lY hF (Below.refl wr.heap.size wr)
        rw [← hTY] at HT0
        have HT0' := Lib.hid HT0
        clear lX lY HT0 hX hY hTY hXS hYS HV u1 u2
        go_upto_region 11 with fail
        refine wp_gen (fun W => MrgT w F W _ _ _ _ _ _ _ _) HT0'.out ?_
        intro W T
        clear HT0'
        go_upto_region 12 with fail
        obtain ⟨e1X, e2X, AX, g1X, TX⟩ := pfx_headK T.lX
        have q0 := T.pb.cell 0
        have q1 := T.pb.cell 1
        have q2 := T.pb.free 0
        have q3 := T.pb.free 1
        have HT := Lib.hid T
        have HZ := Lib.hid TX
        clear T TX
        go_region
        go_upto_region 15 with fail
        refine wp_gen (fun W => MrgT w F W _ _ _ _ _ _ _ _) ((HT.out.setX hF HZ.out).store hF) ?_
        intro W T
        clear HT HZ q0 q1 q2 q3 e1X e2X g1X
        have Hk := Lib.hid (hkp0.out true false)
        have HT := Lib.hid T
        have q0 := T.pb.cell 0
        have q1 := T.pb.cell 1
        clear T
        cases hv : kp true false
        · rw [hv] at Hk
          have hD' : Hid (mergeL kp XS YS = mergeL kp TX TY) := Lib.hid (by rw [HD.out, hv]; rfl)
          go_wp2_with fail
          refine (Hk.out _).mono ?_
          rintro e w' ⟨rfl, rfl⟩
          go_wp2_with fail
          go_roundw
          case rel => exact ⟨_, _, _, _, _, _, _, _, _, rfl, rfl, rfl, by omega, by omega, Lib.hid (HT.out.done hm1' hn1' (by rw [← hD'.out]; exact HE.out))⟩
          case measure => simp; try omega
        · rw [hv] at Hk
          have hD' : Hid (mergeL kp XS YS = (Pfx.mk a1 l1) :: mergeL kp TX TY) := Lib.hid (by rw [HD.out, hv]; rfl)
          go_upto_region 16 with fail
          refine (Hk.out _).mono ?_
          rintro e w' ⟨rfl, rfl⟩
          go_upto_region 16 with fail
          have HX := Lib.hid (HT.out.news hF (Pfx.mk a1 l1) rfl)
          have hfp : Hid (Groups pfxR (w'.alloc (.cells #[.int .u32 (Pfx.mk a1 l1).addr, .int .i64 (Pfx.mk a1 l1).len] 35)) F [.int .u32 (Pfx.mk a1 l1).addr, .int .i64 (Pfx.mk a1 l1).len] [(Pfx.mk a1 l1)]) := Lib.hid (Groups.single ⟨rfl, by assumption⟩)
          have h63 : Hid (O.length + 1 ≤ 9223372036854775807) := by show _ ≤ _; have := HO.out; omega
          have h64 : Hid ((O.length + 1) * 16 ≤ 140737488355328) := by show _ ≤ _; have := HO.out; omega
          go_wp2_with (at_builtin; refine wpList_pushB _ rfl (.tmp 60) (.tmp 62) 22 rfl pfxR_ok (w.heap.size + 1 + 1 + 1) 35 ip_ _ 16 Try.underlying22 hip hp0 hp1 hp2 rfl (by decide) F _ O rfl HX.out.own ⟨w'.heap.size, 0, none⟩ 1 1 [.int .u32 (Pfx.mk a1 l1).addr, .int .i64 (Pfx.mk a1 l1).len] [(Pfx.mk a1 l1)] rfl rfl HX.out.news hfp.out HX.out.inF h63.out h64.out HX.out.base ?_)
          intro v5 w5 hv5 hg5 hn5
          obtain ⟨A5, c5, rfl⟩ := hv5.form
          have HY := Lib.hid (HX.out.push hF hv5 hg5 (by rw [World.size_alloc]; exact hn5))
          clear hv5 hg5 hn5
          go_wp2_with fail
          go_roundw
          case rel => exact ⟨_, _, _, _, _, _, _, _, _, rfl, rfl, rfl, by omega, by omega, Lib.hid (HY.out.done hm1' hn1' (by rw [List.append_assoc, List.singleton_append, ← hD'.out]; exact HE.out))⟩
          case measure => simp; try omega
      · obtain ⟨m, rfl⟩ : ∃ m, m1 = m + 1 := ⟨m1 - 1, by omega⟩
        obtain ⟨a2, l2, b2, off2, TY, rfl, rfl, hFb2, hf2, u3, u4, hd1, hd2, _⟩ := pfx_head lY
        have y2 : decide ((m + 1 : Nat) > (0 : Int)) = true := decide_eq_true (by omega)
        have y3 : ((((m + 1 : Nat) : Int)) == 0) = false := by rw [beq_eq_false_iff_ne]; omega
        have hn1' : TY.length = m := by simp at hY; omega
        have hlt1 : b1 < wr.heap.size := Nat.lt_of_lt_of_le (hF b1 hFb1) HV.out.1.size
        have hlt2 : b2 < wr.heap.size := Nat.lt_of_lt_of_le (hF b2 hFb2) HV.out.1.size
        have r1 : ∀ w', Below wr.heap.size wr w' → w'.cell? ⟨b1, off1, none⟩ = some (.int .u32 a1) := fun w' h => (h.cell (p := ⟨b1, _, none⟩) hlt1).trans u1
        have r2 : ∀ w', Below wr.heap.size wr w' → w'.cell? ⟨b1, off1 + 1, none⟩ = some (.int .i64 l1) := fun w' h => (h.cell (p := ⟨b1, _, none⟩) hlt1).trans u2
        have r3 : ∀ w', Below wr.heap.size wr w' → w'.cell? ⟨b2, off2, none⟩ = some (.int .u32 a2) := fun w' h => (h.cell (p := ⟨b2, _, none⟩) hlt2).trans u3
        have r4 : ∀ w', Below wr.heap.size wr w' → w'.cell? ⟨b2, off2 + 1, none⟩ = some (.int .i64 l2) := fun w' h => (h.cell (p := ⟨b2, _, none⟩) hlt2).trans u4
        obtain ⟨z, hz⟩ : ∃ z, z = cmpP ⟨a1, l1⟩ ⟨a2, l2⟩ := ⟨_, rfl⟩
        have hc := fun W => ip_CmpB a1 l1 a2 l2 W hf1 hf2
        rw [← hz] at hc
        have Hc := Lib.hid hc
        have HZ0 := Lib.hid hz
        have HXX : ∃ XS YS : List Pfx, XS = ⟨a1, l1⟩ :: TX ∧ YS = ⟨a2, l2⟩ :: TY := ⟨_, _, rfl, rfl⟩
        have HMM : Hid (mergeL kp (⟨a1, l1⟩ :: TX) (⟨a2, l2⟩ :: TY) = if z < 0 then onP (kp true false) ⟨a1, l1⟩ ++ mergeL kp TX (⟨a2, l2⟩ :: TY) else if z = 0 then onP (kp true true) ⟨a2, l2⟩ ++ mergeL kp TX TY else onP (kp false true) ⟨a2, l2⟩ ++ mergeL kp (⟨a1, l1⟩ :: TX) TY) := by show _ = _; rw [hz, mergeL]
        have HTT := Lib.hid (fun W (h : Below wr.heap.size wr W) => MrgT.start HV.out.1 HV.out.2.1 HV.out.2.2 lX lY hF h)
        have hWW : Below wr.heap.size wr wr := Below.refl _ _
        clear hz hc u1 u2 u3 u4 lX lY HV
        go_upto_block 2 with (fail)
        go_cut [11] (fun o wx => o = .int .i64 z ∧ Below wr.heap.size wr wx)
        case first =>
          as_aux_lemma =>
          go_wp2_with fail
          go_region_held3 (fun w' => Below wr.heap.size wr w') (first | (with_reducible exact below_step (by assumption) hb1') | (repeat' (first | (with_reducible exact Below.refl _ _) | (with_reducible assumption) | (with_reducible exact Below.size (by assumption)) | (with_reducible refine Below.drew ?_))))
            (first | (go_at_call 13; (with_reducible refine (Hc.out _).mono ?_); rintro e w1 ⟨rfl, hb1'⟩; have hq : Below wr.heap.size wr w1 := below_step (by assumption) hb1') | fail)
          all_goals (go_wp2_with fail)
          all_goals go_meet
          all_goals exact ⟨rfl, by assumption⟩
        case rest =>
        clear hWW r1 r2 r3 r4 Hc
        obtain ⟨rfl, hWW⟩ := hcut
        have HT0 := Lib.hid (HTT.out _ hWW)
        clear HTT hWW
        go_upto_region 11 with fail
        refine wp_gen (fun W => MrgT w F W _ _ _ _ _ _ _ _) HT0.out ?_
        intro W T
        clear HT0
        rcases Int.lt_trichotomy z 0 with hz | hz | hz
        · have d1 : decide (z ≤ 0) = true := decide_eq_true (by omega)
          have d2 : decide (z ≥ 0) = false := decide_eq_false (by omega)
          obtain ⟨XS, YS, TY', hXS, hYS, hTY⟩ : ∃ XS YS TY' : List Pfx, XS = ⟨a1, l1⟩ :: TX ∧ YS = ⟨a2, l2⟩ :: TY ∧ TY' = ⟨a2, l2⟩ :: TY := ⟨_, _, _, rfl, rfl, rfl⟩
          have HD : Hid (mergeL kp XS YS = onP (kp true false) ⟨a1, l1⟩ ++ mergeL kp TX TY') := by show _ = _; rw [hXS, hYS, hTY, HMM.out, if_pos hz]
          rw [← hXS, ← hYS] at HE
          rw [← hTY] at T
          replace hn1' : TY'.length = m + 1 := by rw [hTY, List.length_cons, hn1']
          clear hXS hYS hTY HMM hX hY HZ0 hz
          go_upto_region 12 with fail
          obtain ⟨e1X, e2X, AX, g1X, TX⟩ := pfx_headK T.lX
          have q0 := T.pb.cell 0
          have q1 := T.pb.cell 1
          have q2 := T.pb.free 0
          have q3 := T.pb.free 1
          have HT := Lib.hid T
          have HZ := Lib.hid TX
          clear T TX
          go_region
          go_upto_region 15 with fail
          refine wp_gen (fun W => MrgT w F W _ _ _ _ _ _ _ _) ((HT.out.setX hF HZ.out).store hF) ?_
          intro W T
          clear HT HZ q0 q1 q2 q3 e1X e2X g1X
          have Hk := Lib.hid (hkp0.out true false)
          have HT := Lib.hid T
          have q0 := T.pb.cell 0
          have q1 := T.pb.cell 1
          clear T
          cases hv : kp true false
          · rw [hv] at Hk
            have hD' : Hid (mergeL kp XS YS = mergeL kp TX TY') := Lib.hid (by rw [HD.out, hv]; rfl)
            go_wp2_with fail
            refine (Hk.out _).mono ?_
            rintro e w' ⟨rfl, rfl⟩
            go_wp2_with fail
            go_roundw
            case rel => exact ⟨_, _, _, _, _, _, _, _, _, rfl, rfl, rfl, by omega, by omega, Lib.hid (HT.out.done hm1' hn1' (by rw [← hD'.out]; exact HE.out))⟩
            case measure => simp; try omega
          · rw [hv] at Hk
            have hD' : Hid (mergeL kp XS YS = (Pfx.mk a1 l1) :: mergeL kp TX TY') := Lib.hid (by rw [HD.out, hv]; rfl)
            go_upto_region 16 with fail
            refine (Hk.out _).mono ?_
            rintro e w' ⟨rfl, rfl⟩
            go_upto_region 16 with fail
            have HX := Lib.hid (HT.out.news hF (Pfx.mk a1 l1) rfl)
            have hfp : Hid (Groups pfxR (w'.alloc (.cells #[.int .u32 (Pfx.mk a1 l1).addr, .int .i64 (Pfx.mk a1 l1).len] 35)) F [.int .u32 (Pfx.mk a1 l1).addr, .int .i64 (Pfx.mk a1 l1).len] [(Pfx.mk a1 l1)]) := Lib.hid (Groups.single ⟨rfl, by assumption⟩)
            have h63 : Hid (O.length + 1 ≤ 9223372036854775807) := by show _ ≤ _; have := HO.out; omega
            have h64 : Hid ((O.length + 1) * 16 ≤ 140737488355328) := by show _ ≤ _; have := HO.out; omega
            go_wp2_with (at_builtin; refine wpList_pushB _ rfl (.tmp 60) (.tmp 62) 22 rfl pfxR_ok (w.heap.size + 1 + 1 + 1) 35 ip_ _ 16 Try.underlying22 hip hp0 hp1 hp2 rfl (by decide) F _ O rfl HX.out.own ⟨w'.heap.size, 0, none⟩ 1 1 [.int .u32 (Pfx.mk a1 l1).addr, .int .i64 (Pfx.mk a1 l1).len] [(Pfx.mk a1 l1)] rfl rfl HX.out.news hfp.out HX.out.inF h63.out h64.out HX.out.base ?_)
            intro v5 w5 hv5 hg5 hn5
            obtain ⟨A5, c5, rfl⟩ := hv5.form
            have HY := Lib.hid (HX.out.push hF hv5 hg5 (by rw [World.size_alloc]; exact hn5))
            clear hv5 hg5 hn5
            go_wp2_with fail
            go_roundw
            case rel => exact ⟨_, _, _, _, _, _, _, _, _, rfl, rfl, rfl, by omega, by omega, Lib.hid (HY.out.done hm1' hn1' (by rw [List.append_assoc, List.singleton_append, ← hD'.out]; exact HE.out))⟩
            case measure => simp; try omega
        · subst hz
          obtain ⟨XS, YS, hXS, hYS⟩ : ∃ XS YS : List Pfx, XS = ⟨a1, l1⟩ :: TX ∧ YS = ⟨a2, l2⟩ :: TY := ⟨_, _, rfl, rfl⟩
          have HD : Hid (mergeL kp XS YS = onP (kp true true) ⟨a2, l2⟩ ++ mergeL kp TX TY) := by show _ = _; rw [hXS, hYS, HMM.out, if_neg (by omega), if_pos rfl]
          rw [← hXS, ← hYS] at HE
          clear hXS hYS HMM hX hY HZ0
          go_upto_region 12 with fail
          obtain ⟨e1X, e2X, AX, g1X, TX⟩ := pfx_headK T.lX
          have q0 := T.pb.cell 0
          have q1 := T.pb.cell 1
          have q2 := T.pb.free 0
          have q3 := T.pb.free 1
          have HT := Lib.hid T
          have HZ := Lib.hid TX
          clear T TX
          go_region
          go_upto_region 14 with fail
          refine wp_gen (fun W => MrgT w F W _ _ _ _ _ _ _ _) ((HT.out.setX hF HZ.out).store hF) ?_
          intro W T
          clear HT HZ q0 q1 q2 q3 e1X e2X g1X
          obtain ⟨e1Y, e2Y, AY, g1Y, TY⟩ := pfx_headK T.lY
          have q0 := T.pb.cell 0
          have q1 := T.pb.cell 1
          have q2 := T.pb.free 0
          have q3 := T.pb.free 1
          have HT := Lib.hid T
          have HZ := Lib.hid TY
          clear T TY
          go_region
          go_upto_region 15 with fail
          refine wp_gen (fun W => MrgT w F W _ _ _ _ _ _ _ _) ((HT.out.setY hF HZ.out).store hF) ?_
          intro W T
          clear HT HZ q0 q1 q2 q3 e1Y e2Y g1Y
          have Hk := Lib.hid (hkp0.out true true)
          have HT := Lib.hid T
          have q0 := T.pb.cell 0
          have q1 := T.pb.cell 1
          clear T
          cases hv : kp true true
          · rw [hv] at Hk
            have hD' : Hid (mergeL kp XS YS = mergeL kp TX TY) := Lib.hid (by rw [HD.out, hv]; rfl)
            go_wp2_with fail
            refine (Hk.out _).mono ?_
            rintro e w' ⟨rfl, rfl⟩
            go_wp2_with fail
            go_roundw
            case rel => exact ⟨_, _, _, _, _, _, _, _, _, rfl, rfl, rfl, by omega, by omega, Lib.hid (HT.out.done hm1' hn1' (by rw [← hD'.out]; exact HE.out))⟩
            case measure => simp; try omega
          · rw [hv] at Hk
            have hD' : Hid (mergeL kp XS YS = (Pfx.mk a2 l2) :: mergeL kp TX TY) := Lib.hid (by rw [HD.out, hv]; rfl)
            go_upto_region 16 with fail
            refine (Hk.out _).mono ?_
            rintro e w' ⟨rfl, rfl⟩
            go_upto_region 16 with fail
            have HX := Lib.hid (HT.out.news hF (Pfx.mk a2 l2) rfl)
            have hfp : Hid (Groups pfxR (w'.alloc (.cells #[.int .u32 (Pfx.mk a2 l2).addr, .int .i64 (Pfx.mk a2 l2).len] 35)) F [.int .u32 (Pfx.mk a2 l2).addr, .int .i64 (Pfx.mk a2 l2).len] [(Pfx.mk a2 l2)]) := Lib.hid (Groups.single ⟨rfl, by assumption⟩)
            have h63 : Hid (O.length + 1 ≤ 9223372036854775807) := by show _ ≤ _; have := HO.out; omega
            have h64 : Hid ((O.length + 1) * 16 ≤ 140737488355328) := by show _ ≤ _; have := HO.out; omega
            go_wp2_with (at_builtin; refine wpList_pushB _ rfl (.tmp 60) (.tmp 62) 22 rfl pfxR_ok (w.heap.size + 1 + 1 + 1) 35 ip_ _ 16 Try.underlying22 hip hp0 hp1 hp2 rfl (by decide) F _ O rfl HX.out.own ⟨w'.heap.size, 0, none⟩ 1 1 [.int .u32 (Pfx.mk a2 l2).addr, .int .i64 (Pfx.mk a2 l2).len] [(Pfx.mk a2 l2)] rfl rfl HX.out.news hfp.out HX.out.inF h63.out h64.out HX.out.base ?_)
            intro v5 w5 hv5 hg5 hn5
            obtain ⟨A5, c5, rfl⟩ := hv5.form
            have HY := Lib.hid (HX.out.push hF hv5 hg5 (by rw [World.size_alloc]; exact hn5))
            clear hv5 hg5 hn5
            go_wp2_with fail
            go_roundw
            case rel => exact ⟨_, _, _, _, _, _, _, _, _, rfl, rfl, rfl, by omega, by omega, Lib.hid (HY.out.done hm1' hn1' (by rw [List.append_assoc, List.singleton_append, ← hD'.out]; exact HE.out))⟩
            case measure => simp; try omega
        · have d1 : decide (z ≤ 0) = false := decide_eq_false (by omega)
          have d2 : decide (z ≥ 0) = true := decide_eq_true (by omega)
          obtain ⟨XS, YS, TX', hXS, hYS, hTX⟩ : ∃ XS YS TX' : List Pfx, XS = ⟨a1, l1⟩ :: TX ∧ YS = ⟨a2, l2⟩ :: TY ∧ TX' = ⟨a1, l1⟩ :: TX := ⟨_, _, _, rfl, rfl, rfl⟩
          have HD : Hid (mergeL kp XS YS = onP (kp false true) ⟨a2, l2⟩ ++ mergeL kp TX' TY) := by show _ = _; rw [hXS, hYS, hTX, HMM.out, if_neg (by omega), if_neg (by omega)]
          rw [← hXS, ← hYS] at HE
          rw [← hTX] at T
          replace hm1' : TX'.length = n + 1 := by rw [hTX, List.length_cons, hm1']
          clear hXS hYS hTX HMM hX hY HZ0 hz
          go_upto_region 14 with fail
          obtain ⟨e1Y, e2Y, AY, g1Y, TY⟩ := pfx_headK T.lY
          have q0 := T.pb.cell 0
          have q1 := T.pb.cell 1
          have q2 := T.pb.free 0
          have q3 := T.pb.free 1
          have HT := Lib.hid T
          have HZ := Lib.hid TY
          clear T TY
          go_region
          go_upto_region 15 with fail
          refine wp_gen (fun W => MrgT w F W _ _ _ _ _ _ _ _) ((HT.out.setY hF HZ.out).store hF) ?_
          intro W T
          clear HT HZ q0 q1 q2 q3 e1Y e2Y g1Y
          have Hk := Lib.hid (hkp0.out false true)
          have HT := Lib.hid T
          have q0 := T.pb.cell 0
          have q1 := T.pb.cell 1
          clear T
          cases hv : kp false true
          · rw [hv] at Hk
            have hD' : Hid (mergeL kp XS YS = mergeL kp TX' TY) := Lib.hid (by rw [HD.out, hv]; rfl)
            go_wp2_with fail
            refine (Hk.out _).mono ?_
            rintro e w' ⟨rfl, rfl⟩
            go_wp2_with fail
            go_roundw
            case rel => exact ⟨_, _, _, _, _, _, _, _, _, rfl, rfl, rfl, by omega, by omega, Lib.hid (HT.out.done hm1' hn1' (by rw [← hD'.out]; exact HE.out))⟩
            case measure => simp; try omega
          · rw [hv] at Hk
            have hD' : Hid (mergeL kp XS YS = (Pfx.mk a2 l2) :: mergeL kp TX' TY) := Lib.hid (by rw [HD.out, hv]; rfl)
            go_upto_region 16 with fail
            refine (Hk.out _).mono ?_
            rintro e w' ⟨rfl, rfl⟩
            go_upto_region 16 with fail
            have HX := Lib.hid (HT.out.news hF (Pfx.mk a2 l2) rfl)
            have hfp : Hid (Groups pfxR (w'.alloc (.cells #[.int .u32 (Pfx.mk a2 l2).addr, .int .i64 (Pfx.mk a2 l2).len] 35)) F [.int .u32 (Pfx.mk a2 l2).addr, .int .i64 (Pfx.mk a2 l2).len] [(Pfx.mk a2 l2)]) := Lib.hid (Groups.single ⟨rfl, by assumption⟩)
            have h63 : Hid (O.length + 1 ≤ 9223372036854775807) := by show _ ≤ _; have := HO.out; omega
            have h64 : Hid ((O.length + 1) * 16 ≤ 140737488355328) := by show _ ≤ _; have := HO.out; omega
            go_wp2_with (at_builtin; refine wpList_pushB _ rfl (.tmp 60) (.tmp 62) 22 rfl pfxR_ok (w.heap.size + 1 + 1 + 1) 35 ip_ _ 16 Try.underlying22 hip hp0 hp1 hp2 rfl (by decide) F _ O rfl HX.out.own ⟨w'.heap.size, 0, none⟩ 1 1 [.int .u32 (Pfx.mk a2 l2).addr, .int .i64 (Pfx.mk a2 l2).len] [(Pfx.mk a2 l2)] rfl rfl HX.out.news hfp.out HX.out.inF h63.out h64.out HX.out.base ?_)
            intro v5 w5 hv5 hg5 hn5
            obtain ⟨A5, c5, rfl⟩ := hv5.form
            have HY := Lib.hid (HX.out.push hF hv5 hg5 (by rw [World.size_alloc]; exact hn5))
            clear hv5 hg5 hn5
            go_wp2_with fail
            go_roundw
            case rel => exact ⟨_, _, _, _, _, _, _, _, _, rfl, rfl, rfl, by omega, by omega, Lib.hid (HY.out.done hm1' hn1' (by rw [List.append_assoc, List.singleton_append, ← hD'.out]; exact HE.out))⟩
            case measure => simp; try omega
set_option maxRecDepth 100000 in
set_option maxHeartbeats 8000000 in
theorem set_mergeAnd (kp : Bool → Bool → Bool) (hkp : ∀ a b W, Calls Try.prog 46 #[.bool a, .bool b] W fun e w' => e = .returned (.bool (kp a b)) ∧ w' = W) (w : World) (F : Nat → Prop) (A : Option Addr) (n c : Nat) (xs : List Pfx) (B : Option Addr) (m d : Nat) (ys : List Pfx) (hl : listR 2 pfxR w F [.slice A n c] xs) (hu : listR 2 pfxR w F [.slice B m d] ys) (hF : InF F w) (hn : n ≤ 4096) (hm : m ≤ 4096) :
    Calls Try.prog 44 #[.agg #[.slice A n c], .agg #[.slice B m d], .func (.func 46) #[] #[]] w fun e w' => ∃ A' n' c' F', e = .returned (.tuple #[.agg #[.slice A' n' c'], .int .i64 (mergeE (mergeL kp xs ys))]) ∧ Grew w F w' F' ∧ listR 2 pfxR w' F' [.slice A' n' c'] (mergeR (mergeL kp xs ys)) := by
  obtain ⟨L, hL⟩ : ∃ L, L = mergeL kp xs ys := ⟨_, rfl⟩
  have HL := Lib.hid hL
  have hb : Below w.heap.size w (((w.alloc (.cells #[.slice A n c] 26)).alloc (.cells #[.slice B m d] 26)).alloc (.cells #[.slice none 0 0] 26)) := (((Below.refl _ _).alloc (Nat.le_refl _) _).alloc (by simp) _).alloc (by simp; omega) _
  have hk : Blk (((w.alloc (.cells #[.slice A n c] 26)).alloc (.cells #[.slice B m d] 26)).alloc (.cells #[.slice none 0 0] 26)) (w.heap.size + 1 + 1) 26 #[.slice none 0 0] := by
    have := Blk.new ((w.alloc (.cells #[.slice A n c] 26)).alloc (.cells #[.slice B m d] 26)) 26 #[.slice none 0 0]
    simpa using this
  rw [← hL]
  have HS := Lib.hid (And.intro hk (And.intro hb (And.intro ((listR_ok pfxR_ok).below hl hb hF) ((listR_ok pfxR_ok).below hu hb hF))))
  have Hn := Lib.hid (And.intro hl.len.1 hu.len.1)
  have Hkp := Lib.hid hkp
  have hLs : Hid (L.length ≤ 8192) := by
    show _ ≤ _
    rw [hL]
    have := mergeL_len kp (xs.length + ys.length) xs ys (Nat.le_refl _)
    have := hl.len.1
    have := hu.len.1
    omega
  obtain ⟨ip_, hip, hp0, hp1, hp2⟩ := info_parts pfx_info
  clear hl hu hb hk hL hkp
  go_enter Try.func44, Try.ntmps44
  go_wp2_with fail
  go_quiet (fail)
  go_wp2_with fail
  have hb1 := below_dn2 HS.out.2.1 nq
  refine wp_gen (fun W => MrgR w F W kp L (.slice A n c) (.slice B m d) (.slice none 0 0) n m) ⟨hb1, HS.out.1.dn _, xs, ys, [], Hn.out.1.symm, Hn.out.2.symm, (listR_ok pfxR_ok).below HS.out.2.2.1 (below_dn2 (Below.refl _ _) _) (hF.below HS.out.2.1), (listR_ok pfxR_ok).below HS.out.2.2.2 (below_dn2 (Below.refl _ _) _) (hF.below HS.out.2.1), ownR.nil, by rw [HL.out]; rfl⟩ ?_
  intro W hW
  have HW := Lib.hid hW
  clear hW hb1 HS HL Hn
  go_loopw [9, 10, 8, 11, 12] (fun x y o _ _ wr => ∃ A1 n1 c1 B1 m1 d1 C1 k1 g1, x = .slice A1 n1 c1 ∧ y = .slice B1 m1 d1 ∧ o = .slice C1 k1 g1 ∧ n1 ≤ 4096 ∧ m1 ≤ 4096 ∧ Hid (MrgR w F wr kp L (.slice A1 n1 c1) (.slice B1 m1 d1) (.slice C1 k1 g1) n1 m1)) (fun x y _ _ _ _ => (match x with | .slice _ n _ => n | _ => 0) + (match y with | .slice _ n _ => n | _ => 0))
  case atStart => exact ⟨_, _, _, _, _, _, _, _, _, rfl, rfl, rfl, hn, hm, HW⟩
  case round =>
    clear HW
    obtain ⟨A1, n1, c1, B1, m1, d1, C1, k1, g1, rfl, rfl, rfl, hn1, hm1, HW⟩ := hrel
    have hkp0 := Lib.hid Hkp.out
    clear Hkp
    obtain ⟨hW1, hW2, XS, YS, O, hX, hY, lX, lY, oO, hL⟩ := HW.out
    have HO : Hid (O.length ≤ 8192) := HW.out.small hLs.out hX hY hL
    have HE := Lib.hid hL
    have HV := Lib.hid (And.intro hW1 (And.intro hW2 oO))
    clear HW hW1 hW2 oO hL
    rcases Nat.eq_zero_or_pos n1 with h1 | h1
    · subst h1
      obtain rfl : XS = [] := List.eq_nil_of_length_eq_zero hX
      rcases Nat.eq_zero_or_pos m1 with h2 | h2
      · subst h2
        obtain rfl : YS = [] := List.eq_nil_of_length_eq_zero hY
        have hO : Hid (O = L) := Lib.hid (by have := HE.out; rw [mergeL, List.append_nil] at this; exact this)
        rw [hO.out] at HV HO
        have HK := Lib.hid HV.out.2.1
        have q0 := HK.out.cell 0
        have q1 := HK.out.free 0
        obtain rfl : k1 = L.length := HV.out.2.2.len
        have HZ : ∀ v, Hid (Blk (wr.setCell ⟨w.heap.size + 1 + 1, 0, none⟩ v) (w.heap.size + 1 + 1) 26 #[v] ∧ Grew w F (wr.setCell ⟨w.heap.size + 1 + 1, 0, none⟩ v) (fun b => F b ∨ (Value.slice C1 L.length g1).ownBlock = some b) ∧ listR 2 pfxR (wr.setCell ⟨w.heap.size + 1 + 1, 0, none⟩ v) (fun b => F b ∨ (Value.slice C1 L.length g1).ownBlock = some b) [.slice C1 L.length g1] L) := fun v => Lib.hid (mrg_end hF HV.out.1 HV.out.2.1 HV.out.2.2 v)
        have HZ' := Lib.hid HZ
        clear HZ lX lY
        by_cases h40 : 4096 < L.length
        · have hd4 : decide ((L.length : Int) > 4096) = true := decide_eq_true (by omega)
          have E1 : Hid (mergeE L = 3) := by show _ = _; unfold mergeE; rw [if_pos h40]
          have E2 : Hid (mergeR L = []) := by show _ = _; unfold mergeR; rw [if_pos h40]
          go_wp2_with fail
          refine bodyPost_ret (results_cell_row_tmp rfl _ _ (w.heap.size + 1 + 1) 26 _ (0, 0) _ rfl (HZ'.out (.slice none 0 0)).out.1.heap Try.underlying26 rfl rfl) rfl ?_
          exact ⟨_, _, _, _, by rw [E1.out]; rfl, (HZ'.out _).out.2.1, by rw [E2.out]; exact listR.nil⟩
        · have hd4 : decide ((L.length : Int) > 4096) = false := decide_eq_false (by omega)
          have E1 : Hid (mergeE L = 0) := by show _ = _; unfold mergeE; rw [if_neg h40]
          have E2 : Hid (mergeR L = L) := by show _ = _; unfold mergeR; rw [if_neg h40]
          go_wp2_with fail
          refine bodyPost_ret (results_cell_row_tmp rfl _ _ (w.heap.size + 1 + 1) 26 _ (0, 0) _ rfl (HZ'.out (.slice C1 L.length g1)).out.1.heap Try.underlying26 rfl rfl) rfl ?_
          exact ⟨_, _, _, _, by rw [E1.out]; rfl, (HZ'.out _).out.2.1, by rw [E2.out]; exact (HZ'.out _).out.2.2⟩
      · obtain ⟨m, rfl⟩ : ∃ m, m1 = m + 1 := ⟨m1 - 1, by omega⟩
        obtain ⟨a2, l2, b2, off2, TY, rfl, rfl, hFb2, hf2, _, _, hd1, hd2, _⟩ := pfx_head lY
        have y0 : decide ((m + 1 : Nat) > (0 : Int)) = true := decide_eq_true (by omega)
        have y1 : ((((m + 1 : Nat) : Int)) == 0) = false := by rw [beq_eq_false_iff_ne]; omega
        have hm1' : ([] : List Pfx).length = 0 := rfl
        have hn1' : TY.length = m := by simp at hY; omega
        obtain ⟨TX, XS, YS, hTX, hXS, hYS⟩ : ∃ TX XS YS : List Pfx, TX = [] ∧ XS = [] ∧ YS = ⟨a2, l2⟩ :: TY := ⟨_, _, _, rfl, rfl, rfl⟩
        have HD : Hid (mergeL kp XS YS = onP (kp false true) ⟨a2, l2⟩ ++ mergeL kp TX TY) := by show _ = _; rw [hTX, hXS, hYS, mergeL]
        rw [← hXS, ← hYS] at HE
        rw [← hTX] at hm1'
        have HT0 := MrgT.start HV.out.1 HV.out.2.1 HV.out.2.2 lX lY hF (Below.refl wr.heap.size wr)
        rw [← hTX] at HT0
        have HT0' := Lib.hid HT0
        clear lX lY HT0 hX hY hTX hXS hYS HV
        go_upto_region 11 with fail
        refine wp_gen (fun W => MrgT w F W _ _ _ _ _ _ _ _) HT0'.out ?_
        intro W T
        clear HT0'
        go_upto_region 14 with fail
        obtain ⟨e1Y, e2Y, AY, g1Y, TY⟩ := pfx_headK T.lY
        have q0 := T.pb.cell 0
        have q1 := T.pb.cell 1
        have q2 := T.pb.free 0
        have q3 := T.pb.free 1
        have HT := Lib.hid T
        have HZ := Lib.hid TY
        clear T TY
        go_region
        go_upto_region 15 with fail
        refine wp_gen (fun W => MrgT w F W _ _ _ _ _ _ _ _) ((HT.out.setY hF HZ.out).store hF) ?_
        intro W T
        clear HT HZ q0 q1 q2 q3 e1Y e2Y g1Y
        have Hk := Lib.hid (hkp0.out false true)
        have HT := Lib.hid T
        have q0 := T.pb.cell 0
        have q1 := T.pb.cell 1
        clear T
        cases hv : kp false true
        · rw [hv] at Hk
          have hD' : Hid (mergeL kp XS YS = mergeL kp TX TY) := Lib.hid (by rw [HD.out, hv]; rfl)
          go_wp2_with fail
          refine (Hk.out _).mono ?_
          rintro e w' ⟨rfl, rfl⟩
          go_wp2_with fail
          go_roundw
          case rel => exact ⟨_, _, _, _, _, _, _, _, _, rfl, rfl, rfl, by omega, by omega, Lib.hid (HT.out.done hm1' hn1' (by rw [← hD'.out]; exact HE.out))⟩
          case measure => simp; try omega
        · rw [hv] at Hk
          have hD' : Hid (mergeL kp XS YS = (Pfx.mk a2 l2) :: mergeL kp TX TY) := Lib.hid (by rw [HD.out, hv]; rfl)
          go_upto_region 16 with fail
          refine (Hk.out _).mono ?_
          rintro e w' ⟨rfl, rfl⟩
          go_upto_region 16 with fail
          have HX := Lib.hid (HT.out.news hF (Pfx.mk a2 l2) rfl)
          have hfp : Hid (Groups pfxR (w'.alloc (.cells #[.int .u32 (Pfx.mk a2 l2).addr, .int .i64 (Pfx.mk a2 l2).len] 35)) F [.int .u32 (Pfx.mk a2 l2).addr, .int .i64 (Pfx.mk a2 l2).len] [(Pfx.mk a2 l2)]) := Lib.hid (Groups.single ⟨rfl, by assumption⟩)
          have h63 : Hid (O.length + 1 ≤ 9223372036854775807) := by show _ ≤ _; have := HO.out; omega
          have h64 : Hid ((O.length + 1) * 16 ≤ 140737488355328) := by show _ ≤ _; have := HO.out; omega
          go_wp2_with (at_builtin; refine wpList_pushB _ rfl (.tmp 60) (.tmp 62) 22 rfl pfxR_ok (w.heap.size + 1 + 1 + 1) 35 ip_ _ 16 Try.underlying22 hip hp0 hp1 hp2 rfl (by decide) F _ O rfl HX.out.own ⟨w'.heap.size, 0, none⟩ 1 1 [.int .u32 (Pfx.mk a2 l2).addr, .int .i64 (Pfx.mk a2 l2).len] [(Pfx.mk a2 l2)] rfl rfl HX.out.news hfp.out HX.out.inF h63.out h64.out HX.out.base ?_)
          intro v5 w5 hv5 hg5 hn5
          obtain ⟨A5, c5, rfl⟩ := hv5.form
          have HY := Lib.hid (HX.out.push hF hv5 hg5 (by rw [World.size_alloc]; exact hn5))
          clear hv5 hg5 hn5
          go_wp2_with fail
          go_roundw
          case rel => exact ⟨_, _, _, _, _, _, _, _, _, rfl, rfl, rfl, by omega, by omega, Lib.hid (HY.out.done hm1' hn1' (by rw [List.append_assoc, List.singleton_append, ← hD'.out]; exact HE.out))⟩
          case measure => simp; try omega
    · obtain ⟨n, rfl⟩ : ∃ n, n1 = n + 1 := ⟨n1 - 1, by omega⟩
      obtain ⟨a1, l1, b1, off1, TX, rfl, rfl, hFb1, hf1, u1, u2, hc1, hc2, _⟩ := pfx_head lX
      have y0 : decide ((n + 1 : Nat) > (0 : Int)) = true := decide_eq_true (by omega)
      have y1 : ((((n + 1 : Nat) : Int)) == 0) = false := by rw [beq_eq_false_iff_ne]; omega
      have hm1' : TX.length = n := by simp at hX; omega
      rcases Nat.eq_zero_or_pos m1 with h2 | h2
      · subst h2
        obtain rfl : YS = [] := List.eq_nil_of_length_eq_zero hY
        have hn1' : ([] : List Pfx).length = 0 := rfl
        obtain ⟨TY, XS, YS, hTY, hXS, hYS⟩ : ∃ TY XS YS : List Pfx, TY = [] ∧ YS = [] ∧ XS = ⟨a1, l1⟩ :: TX := ⟨_, _, _, rfl, rfl, rfl⟩
        have HD : Hid (mergeL kp XS YS = onP (kp true false) ⟨a1, l1⟩ ++ mergeL kp TX TY) := by show _ = _; rw [hTY, hXS, hYS, mergeL]
        rw [← hXS, ← hYS] at HE
        rw [← hTY] at hn1'
        have HT0 := MrgT.start HV.out.1 HV.out.2.1 HV.out.2.2 lX lY hF (Below.refl wr.heap.size wr)
        rw [← hTY] at HT0
        have HT0' := Lib.hid HT0
        clear lX lY HT0 hX hY hTY hXS hYS HV u1 u2
        go_upto_region 11 with fail
        refine wp_gen (fun W => MrgT w F W _ _ _ _ _ _ _ _) HT0'.out ?_
        intro W T
        clear HT0'
        go_upto_region 12 with fail
        obtain ⟨e1X, e2X, AX, g1X, TX⟩ := pfx_headK T.lX
        have q0 := T.pb.cell 0
        have q1 := T.pb.cell 1
        have q2 := T.pb.free 0
        have q3 := T.pb.free 1
        have HT := Lib.hid T
        have HZ := Lib.hid TX
        clear T TX
        go_region
        go_upto_region 15 with fail
        refine wp_gen (fun W => MrgT w F W _ _ _ _ _ _ _ _) ((HT.out.setX hF HZ.out).store hF) ?_
        intro W T
        clear HT HZ q0 q1 q2 q3 e1X e2X g1X
        have Hk := Lib.hid (hkp0.out true false)
        have HT := Lib.hid T
        have q0 := T.pb.cell 0
        have q1 := T.pb.cell 1
        clear T
        cases hv : kp true false
        · rw [hv] at Hk
          have hD' : Hid (mergeL kp XS YS = mergeL kp TX TY) := Lib.hid (by rw [HD.out, hv]; rfl)
          go_wp2_with fail
          refine (Hk.out _).mono ?_
          rintro e w' ⟨rfl, rfl⟩
          go_wp2_with fail
          go_roundw
          case rel => exact ⟨_, _, _, _, _, _, _, _, _, rfl, rfl, rfl, by omega, by omega, Lib.hid (HT.out.done hm1' hn1' (by rw [← hD'.out]; exact HE.out))⟩
          case measure => simp; try omega
        · rw [hv] at Hk
          have hD' : Hid (mergeL kp XS YS = (Pfx.mk a1 l1) :: mergeL kp TX TY) := Lib.hid (by rw [HD.out, hv]; rfl)
          go_upto_region 16 with fail
          refine (Hk.out _).mono ?_
          rintro e w' ⟨rfl, rfl⟩
          go_upto_region 16 with fail
          have HX := Lib.hid (HT.out.news hF (Pfx.mk a1 l1) rfl)
          have hfp : Hid (Groups pfxR (w'.alloc (.cells #[.int .u32 (Pfx.mk a1 l1).addr, .int .i64 (Pfx.mk a1 l1).len] 35)) F [.int .u32 (Pfx.mk a1 l1).addr, .int .i64 (Pfx.mk a1 l1).len] [(Pfx.mk a1 l1)]) := Lib.hid (Groups.single ⟨rfl, by assumption⟩)
          have h63 : Hid (O.length + 1 ≤ 9223372036854775807) := by show _ ≤ _; have := HO.out; omega
          have h64 : Hid ((O.length + 1) * 16 ≤ 140737488355328) := by show _ ≤ _; have := HO.out; omega
          go_wp2_with (at_builtin; refine wpList_pushB _ rfl (.tmp 60) (.tmp 62) 22 rfl pfxR_ok (w.heap.size + 1 + 1 + 1) 35 ip_ _ 16 Try.underlying22 hip hp0 hp1 hp2 rfl (by decide) F _ O rfl HX.out.own ⟨w'.heap.size, 0, none⟩ 1 1 [.int .u32 (Pfx.mk a1 l1).addr, .int .i64 (Pfx.mk a1 l1).len] [(Pfx.mk a1 l1)] rfl rfl HX.out.news hfp.out HX.out.inF h63.out h64.out HX.out.base ?_)
          intro v5 w5 hv5 hg5 hn5
          obtain ⟨A5, c5, rfl⟩ := hv5.form
          have HY := Lib.hid (HX.out.push hF hv5 hg5 (by rw [World.size_alloc]; exact hn5))
          clear hv5 hg5 hn5
          go_wp2_with fail
          go_roundw
          case rel => exact ⟨_, _, _, _, _, _, _, _, _, rfl, rfl, rfl, by omega, by omega, Lib.hid (HY.out.done hm1' hn1' (by rw [List.append_assoc, List.singleton_append, ← hD'.out]; exact HE.out))⟩
          case measure => simp; try omega
      · obtain ⟨m, rfl⟩ : ∃ m, m1 = m + 1 := ⟨m1 - 1, by omega⟩
        obtain ⟨a2, l2, b2, off2, TY, rfl, rfl, hFb2, hf2, u3, u4, hd1, hd2, _⟩ := pfx_head lY
        have y2 : decide ((m + 1 : Nat) > (0 : Int)) = true := decide_eq_true (by omega)
        have y3 : ((((m + 1 : Nat) : Int)) == 0) = false := by rw [beq_eq_false_iff_ne]; omega
        have hn1' : TY.length = m := by simp at hY; omega
        have hlt1 : b1 < wr.heap.size := Nat.lt_of_lt_of_le (hF b1 hFb1) HV.out.1.size
        have hlt2 : b2 < wr.heap.size := Nat.lt_of_lt_of_le (hF b2 hFb2) HV.out.1.size
        have r1 : ∀ w', Below wr.heap.size wr w' → w'.cell? ⟨b1, off1, none⟩ = some (.int .u32 a1) := fun w' h => (h.cell (p := ⟨b1, _, none⟩) hlt1).trans u1
        have r2 : ∀ w', Below wr.heap.size wr w' → w'.cell? ⟨b1, off1 + 1, none⟩ = some (.int .i64 l1) := fun w' h => (h.cell (p := ⟨b1, _, none⟩) hlt1).trans u2
        have r3 : ∀ w', Below wr.heap.size wr w' → w'.cell? ⟨b2, off2, none⟩ = some (.int .u32 a2) := fun w' h => (h.cell (p := ⟨b2, _, none⟩) hlt2).trans u3
        have r4 : ∀ w', Below wr.heap.size wr w' → w'.cell? ⟨b2, off2 + 1, none⟩ = some (.int .i64 l2) := fun w' h => (h.cell (p := ⟨b2, _, none⟩) hlt2).trans u4
        obtain ⟨z, hz⟩ : ∃ z, z = cmpP ⟨a1, l1⟩ ⟨a2, l2⟩ := ⟨_, rfl⟩
        have hc := fun W => ip_CmpB a1 l1 a2 l2 W hf1 hf2
        rw [← hz] at hc
        have Hc := Lib.hid hc
        have HZ0 := Lib.hid hz
        have HXX : ∃ XS YS : List Pfx, XS = ⟨a1, l1⟩ :: TX ∧ YS = ⟨a2, l2⟩ :: TY := ⟨_, _, rfl, rfl⟩
        have HMM : Hid (mergeL kp (⟨a1, l1⟩ :: TX) (⟨a2, l2⟩ :: TY) = if z < 0 then onP (kp true false) ⟨a1, l1⟩ ++ mergeL kp TX (⟨a2, l2⟩ :: TY) else if z = 0 then onP (kp true true) ⟨a2, l2⟩ ++ mergeL kp TX TY else onP (kp false true) ⟨a2, l2⟩ ++ mergeL kp (⟨a1, l1⟩ :: TX) TY) := by show _ = _; rw [hz, mergeL]
        have HTT := Lib.hid (fun W (h : Below wr.heap.size wr W) => MrgT.start HV.out.1 HV.out.2.1 HV.out.2.2 lX lY hF h)
        have hWW : Below wr.heap.size wr wr := Below.refl _ _
        clear hz hc u1 u2 u3 u4 lX lY HV
        go_upto_block 2 with (fail)
        go_cut [11] (fun o wx => o = .int .i64 z ∧ Below wr.heap.size wr wx)
        case first =>
          as_aux_lemma =>
          go_wp2_with fail
          go_region_held3 (fun w' => Below wr.heap.size wr w') (first | (with_reducible exact below_step (by assumption) hb1') | (repeat' (first | (with_reducible exact Below.refl _ _) | (with_reducible assumption) | (with_reducible exact Below.size (by assumption)) | (with_reducible refine Below.drew ?_))))
            (first | (go_at_call 13; (with_reducible refine (Hc.out _).mono ?_); rintro e w1 ⟨rfl, hb1'⟩; have hq : Below wr.heap.size wr w1 := below_step (by assumption) hb1') | fail)
          all_goals (go_wp2_with fail)
          all_goals go_meet
          all_goals exact ⟨rfl, by assumption⟩
        case rest =>
        clear hWW r1 r2 r3 r4 Hc
        obtain ⟨rfl, hWW⟩ := hcut
        have HT0 := Lib.hid (HTT.out _ hWW)
        clear HTT hWW
        go_upto_region 11 with fail
        refine wp_gen (fun W => MrgT w F W _ _ _ _ _ _ _ _) HT0.out ?_
        intro W T
        clear HT0
        rcases Int.lt_trichotomy z 0 with hz | hz | hz
        · have d1 : decide (z ≤ 0) = true := decide_eq_true (by omega)
          have d2 : decide (z ≥ 0) = false := decide_eq_false (by omega)
          obtain ⟨XS, YS, TY', hXS, hYS, hTY⟩ : ∃ XS YS TY' : List Pfx, XS = ⟨a1, l1⟩ :: TX ∧ YS = ⟨a2, l2⟩ :: TY ∧ TY' = ⟨a2, l2⟩ :: TY := ⟨_, _, _, rfl, rfl, rfl⟩
          have HD : Hid (mergeL kp XS YS = onP (kp true false) ⟨a1, l1⟩ ++ mergeL kp TX TY') := by show _ = _; rw [hXS, hYS, hTY, HMM.out, if_pos hz]
          rw [← hXS, ← hYS] at HE
          rw [← hTY] at T
          replace hn1' : TY'.length = m + 1 := by rw [hTY, List.length_cons, hn1']
          clear hXS hYS hTY HMM hX hY HZ0 hz
          go_upto_region 12 with fail
          obtain ⟨e1X, e2X, AX, g1X, TX⟩ := pfx_headK T.lX
          have q0 := T.pb.cell 0
          have q1 := T.pb.cell 1
          have q2 := T.pb.free 0
          have q3 := T.pb.free 1
          have HT := Lib.hid T
          have HZ := Lib.hid TX
          clear T TX
          go_region
          go_upto_region 15 with fail
          refine wp_gen (fun W => MrgT w F W _ _ _ _ _ _ _ _) ((HT.out.setX hF HZ.out).store hF) ?_
          intro W T
          clear HT HZ q0 q1 q2 q3 e1X e2X g1X
          have Hk := Lib.hid (hkp0.out true false)
          have HT := Lib.hid T
          have q0 := T.pb.cell 0
          have q1 := T.pb.cell 1
          clear T
          cases hv : kp true false
          · rw [hv] at Hk
            have hD' : Hid (mergeL kp XS YS = mergeL kp TX TY') := Lib.hid (by rw [HD.out, hv]; rfl)
            go_wp2_with fail
            refine (Hk.out _).mono ?_
            rintro e w' ⟨rfl, rfl⟩
            go_wp2_with fail
            go_roundw
            case rel => exact ⟨_, _, _, _, _, _, _, _, _, rfl, rfl, rfl, by omega, by omega, Lib.hid (HT.out.done hm1' hn1' (by rw [← hD'.out]; exact HE.out))⟩
            case measure => simp; try omega
          · rw [hv] at Hk
            have hD' : Hid (mergeL kp XS YS = (Pfx.mk a1 l1) :: mergeL kp TX TY') := Lib.hid (by rw [HD.out, hv]; rfl)
            go_upto_region 16 with fail
            refine (Hk.out _).mono ?_
            rintro e w' ⟨rfl, rfl⟩
            go_upto_region 16 with fail
            have HX := Lib.hid (HT.out.news hF (Pfx.mk a1 l1) rfl)
            have hfp : Hid (Groups pfxR (w'.alloc (.cells #[.int .u32 (Pfx.mk a1 l1).addr, .int .i64 (Pfx.mk a1 l1).len] 35)) F [.int .u32 (Pfx.mk a1 l1).addr, .int .i64 (Pfx.mk a1 l1).len] [(Pfx.mk a1 l1)]) := Lib.hid (Groups.single ⟨rfl, by assumption⟩)
            have h63 : Hid (O.length + 1 ≤ 9223372036854775807) := by show _ ≤ _; have := HO.out; omega
            have h64 : Hid ((O.length + 1) * 16 ≤ 140737488355328) := by show _ ≤ _; have := HO.out; omega
            go_wp2_with (at_builtin; refine wpList_pushB _ rfl (.tmp 60) (.tmp 62) 22 rfl pfxR_ok (w.heap.size + 1 + 1 + 1) 35 ip_ _ 16 Try.underlying22 hip hp0 hp1 hp2 rfl (by decide) F _ O rfl HX.out.own ⟨w'.heap.size, 0, none⟩ 1 1 [.int .u32 (Pfx.mk a1 l1).addr, .int .i64 (Pfx.mk a1 l1).len] [(Pfx.mk a1 l1)] rfl rfl HX.out.news hfp.out HX.out.inF h63.out h64.out HX.out.base ?_)
            intro v5 w5 hv5 hg5 hn5
            obtain ⟨A5, c5, rfl⟩ := hv5.form
            have HY := Lib.hid (HX.out.push hF hv5 hg5 (by rw [World.size_alloc]; exact hn5))
            clear hv5 hg5 hn5
            go_wp2_with fail
            go_roundw
            case rel => exact ⟨_, _, _, _, _, _, _, _, _, rfl, rfl, rfl, by omega, by omega, Lib.hid (HY.out.done hm1' hn1' (by rw [List.append_assoc, List.singleton_append, ← hD'.out]; exact HE.out))⟩
            case measure => simp; try omega
        · subst hz
          obtain ⟨XS, YS, hXS, hYS⟩ : ∃ XS YS : List Pfx, XS = ⟨a1, l1⟩ :: TX ∧ YS = ⟨a2, l2⟩ :: TY := ⟨_, _, rfl, rfl⟩
          have HD : Hid (mergeL kp XS YS = onP (kp true true) ⟨a2, l2⟩ ++ mergeL kp TX TY) := by show _ = _; rw [hXS, hYS, HMM.out, if_neg (by omega), if_pos rfl]
          rw [← hXS, ← hYS] at HE
          clear hXS hYS HMM hX hY HZ0
          go_upto_region 12 with fail
          obtain ⟨e1X, e2X, AX, g1X, TX⟩ := pfx_headK T.lX
          have q0 := T.pb.cell 0
          have q1 := T.pb.cell 1
          have q2 := T.pb.free 0
          have q3 := T.pb.free 1
          have HT := Lib.hid T
          have HZ := Lib.hid TX
          clear T TX
          go_region
          go_upto_region 14 with fail
          refine wp_gen (fun W => MrgT w F W _ _ _ _ _ _ _ _) ((HT.out.setX hF HZ.out).store hF) ?_
          intro W T
          clear HT HZ q0 q1 q2 q3 e1X e2X g1X
          obtain ⟨e1Y, e2Y, AY, g1Y, TY⟩ := pfx_headK T.lY
          have q0 := T.pb.cell 0
          have q1 := T.pb.cell 1
          have q2 := T.pb.free 0
          have q3 := T.pb.free 1
          have HT := Lib.hid T
          have HZ := Lib.hid TY
          clear T TY
          go_region
          go_upto_region 15 with fail
          refine wp_gen (fun W => MrgT w F W _ _ _ _ _ _ _ _) ((HT.out.setY hF HZ.out).store hF) ?_
          intro W T
          clear HT HZ q0 q1 q2 q3 e1Y e2Y g1Y
          have Hk := Lib.hid (hkp0.out true true)
          have HT := Lib.hid T
          have q0 := T.pb.cell 0
          have q1 := T.pb.cell 1
          clear T
          cases hv : kp true true
          · rw [hv] at Hk
            have hD' : Hid (mergeL kp XS YS = mergeL kp TX TY) := Lib.hid (by rw [HD.out, hv]; rfl)
            go_wp2_with fail
            refine (Hk.out _).mono ?_
            rintro e w' ⟨rfl, rfl⟩
            go_wp2_with fail
            go_roundw
            case rel => exact ⟨_, _, _, _, _, _, _, _, _, rfl, rfl, rfl, by omega, by omega, Lib.hid (HT.out.done hm1' hn1' (by rw [← hD'.out]; exact HE.out))⟩
            case measure => simp; try omega
          · rw [hv] at Hk
            have hD' : Hid (mergeL kp XS YS = (Pfx.mk a2 l2) :: mergeL kp TX TY) := Lib.hid (by rw [HD.out, hv]; rfl)
            go_upto_region 16 with fail
            refine (Hk.out _).mono ?_
            rintro e w' ⟨rfl, rfl⟩
            go_upto_region 16 with fail
            have HX := Lib.hid (HT.out.news hF (Pfx.mk a2 l2) rfl)
            have hfp : Hid (Groups pfxR (w'.alloc (.cells #[.int .u32 (Pfx.mk a2 l2).addr, .int .i64 (Pfx.mk a2 l2).len] 35)) F [.int .u32 (Pfx.mk a2 l2).addr, .int .i64 (Pfx.mk a2 l2).len] [(Pfx.mk a2 l2)]) := Lib.hid (Groups.single ⟨rfl, by assumption⟩)
            have h63 : Hid (O.length + 1 ≤ 9223372036854775807) := by show _ ≤ _; have := HO.out; omega
            have h64 : Hid ((O.length + 1) * 16 ≤ 140737488355328) := by show _ ≤ _; have := HO.out; omega
            go_wp2_with (at_builtin; refine wpList_pushB _ rfl (.tmp 60) (.tmp 62) 22 rfl pfxR_ok (w.heap.size + 1 + 1 + 1) 35 ip_ _ 16 Try.underlying22 hip hp0 hp1 hp2 rfl (by decide) F _ O rfl HX.out.own ⟨w'.heap.size, 0, none⟩ 1 1 [.int .u32 (Pfx.mk a2 l2).addr, .int .i64 (Pfx.mk a2 l2).len] [(Pfx.mk a2 l2)] rfl rfl HX.out.news hfp.out HX.out.inF h63.out h64.out HX.out.base ?_)
            intro v5 w5 hv5 hg5 hn5
            obtain ⟨A5, c5, rfl⟩ := hv5.form
            have HY := Lib.hid (HX.out.push hF hv5 hg5 (by rw [World.size_alloc]; exact hn5))
            clear hv5 hg5 hn5
            go_wp2_with fail
            go_roundw
            case rel => exact ⟨_, _, _, _, _, _, _, _, _, rfl, rfl, rfl, by omega, by omega, Lib.hid (HY.out.done hm1' hn1' (by rw [List.append_assoc, List.singleton_append, ← hD'.out]; exact HE.out))⟩
            case measure => simp; try omega
        · have d1 : decide (z ≤ 0) = false := decide_eq_false (by omega)
          have d2 : decide (z ≥ 0) = true := decide_eq_true (by omega)
          obtain ⟨XS, YS, TX', hXS, hYS, hTX⟩ : ∃ XS YS TX' : List Pfx, XS = ⟨a1, l1⟩ :: TX ∧ YS = ⟨a2, l2⟩ :: TY ∧ TX' = ⟨a1, l1⟩ :: TX := ⟨_, _, _, rfl, rfl, rfl⟩
          have HD : Hid (mergeL kp XS YS = onP (kp false true) ⟨a2, l2⟩ ++ mergeL kp TX' TY) := by show _ = _; rw [hXS, hYS, hTX, HMM.out, if_neg (by omega), if_neg (by omega)]
          rw [← hXS, ← hYS] at HE
          rw [← hTX] at T
          replace hm1' : TX'.length = n + 1 := by rw [hTX, List.length_cons, hm1']
          clear hXS hYS hTX HMM hX hY HZ0 hz
          go_upto_region 14 with fail
          obtain ⟨e1Y, e2Y, AY, g1Y, TY⟩ := pfx_headK T.lY
          have q0 := T.pb.cell 0
          have q1 := T.pb.cell 1
          have q2 := T.pb.free 0
          have q3 := T.pb.free 1
          have HT := Lib.hid T
          have HZ := Lib.hid TY
          clear T TY
          go_region
          go_upto_region 15 with fail
          refine wp_gen (fun W => MrgT w F W _ _ _ _ _ _ _ _) ((HT.out.setY hF HZ.out).store hF) ?_
          intro W T
          clear HT HZ q0 q1 q2 q3 e1Y e2Y g1Y
          have Hk := Lib.hid (hkp0.out false true)
          have HT := Lib.hid T
          have q0 := T.pb.cell 0
          have q1 := T.pb.cell 1
          clear T
          cases hv : kp false true
          · rw [hv] at Hk
            have hD' : Hid (mergeL kp XS YS = mergeL kp TX' TY) := Lib.hid (by rw [HD.out, hv]; rfl)
            go_wp2_with fail
            refine (Hk.out _).mono ?_
            rintro e w' ⟨rfl, rfl⟩
            go_wp2_with fail
            go_roundw
            case rel => exact ⟨_, _, _, _, _, _, _, _, _, rfl, rfl, rfl, by omega, by omega, Lib.hid (HT.out.done hm1' hn1' (by rw [← hD'.out]; exact HE.out))⟩
            case measure => simp; try omega
          · rw [hv] at Hk
            have hD' : Hid (mergeL kp XS YS = (Pfx.mk a2 l2) :: mergeL kp TX' TY) := Lib.hid (by rw [HD.out, hv]; rfl)
            go_upto_region 16 with fail
            refine (Hk.out _).mono ?_
            rintro e w' ⟨rfl, rfl⟩
            go_upto_region 16 with fail
            have HX := Lib.hid (HT.out.news hF (Pfx.mk a2 l2) rfl)
            have hfp : Hid (Groups pfxR (w'.alloc (.cells #[.int .u32 (Pfx.mk a2 l2).addr, .int .i64 (Pfx.mk a2 l2).len] 35)) F [.int .u32 (Pfx.mk a2 l2).addr, .int .i64 (Pfx.mk a2 l2).len] [(Pfx.mk a2 l2)]) := Lib.hid (Groups.single ⟨rfl, by assumption⟩)
            have h63 : Hid (O.length + 1 ≤ 9223372036854775807) := by show _ ≤ _; have := HO.out; omega
            have h64 : Hid ((O.length + 1) * 16 ≤ 140737488355328) := by show _ ≤ _; have := HO.out; omega
            go_wp2_with (at_builtin; refine wpList_pushB _ rfl (.tmp 60) (.tmp 62) 22 rfl pfxR_ok (w.heap.size + 1 + 1 + 1) 35 ip_ _ 16 Try.underlying22 hip hp0 hp1 hp2 rfl (by decide) F _ O rfl HX.out.own ⟨w'.heap.size, 0, none⟩ 1 1 [.int .u32 (Pfx.mk a2 l2).addr, .int .i64 (Pfx.mk a2 l2).len] [(Pfx.mk a2 l2)] rfl rfl HX.out.news hfp.out HX.out.inF h63.out h64.out HX.out.base ?_)
            intro v5 w5 hv5 hg5 hn5
            obtain ⟨A5, c5, rfl⟩ := hv5.form
            have HY := Lib.hid (HX.out.push hF hv5 hg5 (by rw [World.size_alloc]; exact hn5))
            clear hv5 hg5 hn5
            go_wp2_with fail
            go_roundw
            case rel => exact ⟨_, _, _, _, _, _, _, _, _, rfl, rfl, rfl, by omega, by omega, Lib.hid (HY.out.done hm1' hn1' (by rw [List.append_assoc, List.singleton_append, ← hD'.out]; exact HE.out))⟩
            case measure => simp; try omega
set_option maxRecDepth 100000 in
set_option maxHeartbeats 8000000 in
theorem set_mergeLess (kp : Bool → Bool → Bool) (hkp : ∀ a b W, Calls Try.prog 47 #[.bool a, .bool b] W fun e w' => e = .returned (.bool (kp a b)) ∧ w' = W) (w : World) (F : Nat → Prop) (A : Option Addr) (n c : Nat) (xs : List Pfx) (B : Option Addr) (m d : Nat) (ys : List Pfx) (hl : listR 2 pfxR w F [.slice A n c] xs) (hu : listR 2 pfxR w F [.slice B m d] ys) (hF : InF F w) (hn : n ≤ 4096) (hm : m ≤ 4096) :
    Calls Try.prog 44 #[.agg #[.slice A n c], .agg #[.slice B m d], .func (.func 47) #[] #[]] w fun e w' => ∃ A' n' c' F', e = .returned (.tuple #[.agg #[.slice A' n' c'], .int .i64 (mergeE (mergeL kp xs ys))]) ∧ Grew w F w' F' ∧ listR 2 pfxR w' F' [.slice A' n' c'] (mergeR (mergeL kp xs ys)) := by
  obtain ⟨L, hL⟩ : ∃ L, L = mergeL kp xs ys := ⟨_, rfl⟩
  have HL := Lib.hid hL
  have hb : Below w.heap.size w (((w.alloc (.cells #[.slice A n c] 26)).alloc (.cells #[.slice B m d] 26)).alloc (.cells #[.slice none 0 0] 26)) := (((Below.refl _ _).alloc (Nat.le_refl _) _).alloc (by simp) _).alloc (by simp; omega) _
  have hk : Blk (((w.alloc (.cells #[.slice A n c] 26)).alloc (.cells #[.slice B m d] 26)).alloc (.cells #[.slice none 0 0] 26)) (w.heap.size + 1 + 1) 26 #[.slice none 0 0] := by
    have := Blk.new ((w.alloc (.cells #[.slice A n c] 26)).alloc (.cells #[.slice B m d] 26)) 26 #[.slice none 0 0]
    simpa using this
  rw [← hL]
  have HS := Lib.hid (And.intro hk (And.intro hb (And.intro ((listR_ok pfxR_ok).below hl hb hF) ((listR_ok pfxR_ok).below hu hb hF))))
  have Hn := Lib.hid (And.intro hl.len.1 hu.len.1)
  have Hkp := Lib.hid hkp
  have hLs : Hid (L.length ≤ 8192) := by
    show _ ≤ _
    rw [hL]
    have := mergeL_len kp (xs.length + ys.length) xs ys (Nat.le_refl _)
    have := hl.len.1
    have := hu.len.1
    omega
  obtain ⟨ip_, hip, hp0, hp1, hp2⟩ := info_parts pfx_info
  clear hl hu hb hk hL hkp
  go_enter Try.func44, Try.ntmps44
  go_wp2_with fail
  go_quiet (fail)
  go_wp2_with fail
  have hb1 := below_dn2 HS.out.2.1 nq
  refine wp_gen (fun W => MrgR w F W kp L (.slice A n c) (.slice B m d) (.slice none 0 0) n m) ⟨hb1, HS.out.1.dn _, xs, ys, [], Hn.out.1.symm, Hn.out.2.symm, (listR_ok pfxR_ok).below HS.out.2.2.1 (below_dn2 (Below.refl _ _) _) (hF.below HS.out.2.1), (listR_ok pfxR_ok).below HS.out.2.2.2 (below_dn2 (Below.refl _ _) _) (hF.below HS.out.2.1), ownR.nil, by rw [HL.out]; rfl⟩ ?_
  intro W hW
  have HW := Lib.hid hW
  clear hW hb1 HS HL Hn
  go_loopw [9, 10, 8, 11, 12] (fun x y o _ _ wr => ∃ A1 n1 c1 B1 m1 d1 C1 k1 g1, x = .slice A1 n1 c1 ∧ y = .slice B1 m1 d1 ∧ o = .slice C1 k1 g1 ∧ n1 ≤ 4096 ∧ m1 ≤ 4096 ∧ Hid (MrgR w F wr kp L (.slice A1 n1 c1) (.slice B1 m1 d1) (.slice C1 k1 g1) n1 m1)) (fun x y _ _ _ _ => (match x with | .slice _ n _ => n | _ => 0) + (match y with | .slice _ n _ => n | _ => 0))
  case atStart => exact ⟨_, _, _, _, _, _, _, _, _, rfl, rfl, rfl, hn, hm, HW⟩
  case round =>
    clear HW
    obtain ⟨A1, n1, c1, B1, m1, d1, C1, k1, g1, rfl, rfl, rfl, hn1, hm1, HW⟩ := hrel
    have hkp0 := Lib.hid Hkp.out
    clear Hkp
    obtain ⟨hW1, hW2, XS, YS, O, hX, hY, lX, lY, oO, hL⟩ := HW.out
    have HO : Hid (O.length ≤ 8192) := HW.out.small hLs.out hX hY hL
    have HE := Lib.hid hL
    have HV := Lib.hid (And.intro hW1 (And.intro hW2 oO))
    clear HW hW1 hW2 oO hL
    rcases Nat.eq_zero_or_pos n1 with h1 | h1
    · subst h1
      obtain rfl : XS = [] := List.eq_nil_of_length_eq_zero hX
      rcases Nat.eq_zero_or_pos m1 with h2 | h2
      · subst h2
        obtain rfl : YS = [] := List.eq_nil_of_length_eq_zero hY
        have hO : Hid (O = L) := Lib.hid (by have := HE.out; rw [mergeL, List.append_nil] at this; exact this)
        rw [hO.out] at HV HO
        have HK := Lib.hid HV.out.2.1
        have q0 := HK.out.cell 0
        have q1 := HK.out.free 0
        obtain rfl : k1 = L.length := HV.out.2.2.len
        have HZ : ∀ v, Hid (Blk (wr.setCell ⟨w.heap.size + 1 + 1, 0, none⟩ v) (w.heap.size + 1 + 1) 26 #[v] ∧ Grew w F (wr.setCell ⟨w.heap.size + 1 + 1, 0, none⟩ v) (fun b => F b ∨ (Value.slice C1 L.length g1).ownBlock = some b) ∧ listR 2 pfxR (wr.setCell ⟨w.heap.size + 1 + 1, 0, none⟩ v) (fun b => F b ∨ (Value.slice C1 L.length g1).ownBlock = some b) [.slice C1 L.length g1] L) := fun v => Lib.hid (mrg_end hF HV.out.1 HV.out.2.1 HV.out.2.2 v)
        have HZ' := Lib.hid HZ
        clear HZ lX lY
        by_cases h40 : 4096 < L.length
        · have hd4 : decide ((L.length : Int) > 4096) = true := decide_eq_true (by omega)
          have E1 : Hid (mergeE L = 3) := by show _ = _; unfold mergeE; rw [if_pos h40]
          have E2 : Hid (mergeR L = []) := by show _ = _; unfold mergeR; rw [if_pos h40]
          go_wp2_with fail
          refine bodyPost_ret (results_cell_row_tmp rfl _ _ (w.heap.size + 1 + 1) 26 _ (0, 0) _ rfl (HZ'.out (.slice none 0 0)).out.1.heap Try.underlying26 rfl rfl) rfl ?_
          exact ⟨_, _, _, _, by rw [E1.out]; rfl, (HZ'.out _).out.2.1, by rw [E2.out]; exact listR.nil⟩
        · have hd4 : decide ((L.length : Int) > 4096) = false := decide_eq_false (by omega)
          have E1 : Hid (mergeE L = 0) := by show _ = _; unfold mergeE; rw [if_neg h40]
          have E2 : Hid (mergeR L = L) := by show _ = _; unfold mergeR; rw [if_neg h40]
          go_wp2_with fail
          refine bodyPost_ret (results_cell_row_tmp rfl _ _ (w.heap.size + 1 + 1) 26 _ (0, 0) _ rfl (HZ'.out (.slice C1 L.length g1)).out.1.heap Try.underlying26 rfl rfl) rfl ?_
          exact ⟨_, _, _, _, by rw [E1.out]; rfl, (HZ'.out _).out.2.1, by rw [E2.out]; exact (HZ'.out _).out.2.2⟩
      · obtain ⟨m, rfl⟩ : ∃ m, m1 = m + 1 := ⟨m1 - 1, by omega⟩
        obtain ⟨a2, l2, b2, off2, TY, rfl, rfl, hFb2, hf2, _, _, hd1, hd2, _⟩ := pfx_head lY
        have y0 : decide ((m + 1 : Nat) > (0 : Int)) = true := decide_eq_true (by omega)
        have y1 : ((((m + 1 : Nat) : Int)) == 0) = false := by rw [beq_eq_false_iff_ne]; omega
        have hm1' : ([] : List Pfx).length = 0 := rfl
        have hn1' : TY.length = m := by simp at hY; omega
        obtain ⟨TX, XS, YS, hTX, hXS, hYS⟩ : ∃ TX XS YS : List Pfx, TX = [] ∧ XS = [] ∧ YS = ⟨a2, l2⟩ :: TY := ⟨_, _, _, rfl, rfl, rfl⟩
        have HD : Hid (mergeL kp XS YS = onP (kp false true) ⟨a2, l2⟩ ++ mergeL kp TX TY) := by show _ = _; rw [hTX, hXS, hYS, mergeL]
        rw [← hXS, ← hYS] at HE
        rw [← hTX] at hm1'
        have HT0 := MrgT.start HV.out.1 HV.out.2.1 HV.out.2.2 lX lY hF (Below.refl wr.heap.size wr)
        rw [← hTX] at HT0
        have HT0' := Lib.hid HT0
        clear lX lY HT0 hX hY hTX hXS hYS HV
        go_upto_region 11 with fail
        refine wp_gen (fun W => MrgT w F W _ _ _ _ _ _ _ _) HT0'.out ?_
        intro W T
        clear HT0'
        go_upto_region 14 with fail
        obtain ⟨e1Y, e2Y, AY, g1Y, TY⟩ := pfx_headK T.lY
        have q0 := T.pb.cell 0
        have q1 := T.pb.cell 1
        have q2 := T.pb.free 0
        have q3 := T.pb.free 1
        have HT := Lib.hid T
        have HZ := Lib.hid TY
        clear T TY
        go_region
        go_upto_region 15 with fail
        refine wp_gen (fun W => MrgT w F W _ _ _ _ _ _ _ _) ((HT.out.setY hF HZ.out).store hF) ?_
        intro W T
        clear HT HZ q0 q1 q2 q3 e1Y e2Y g1Y
        have Hk := Lib.hid (hkp0.out false true)
        have HT := Lib.hid T
        have q0 := T.pb.cell 0
        have q1 := T.pb.cell 1
        clear T
        cases hv : kp false true
        · rw [hv] at Hk
          have hD' : Hid (mergeL kp XS YS = mergeL kp TX TY) := Lib.hid (by rw [HD.out, hv]; rfl)
          go_wp2_with fail
          refine (Hk.out _).mono ?_
          rintro e w' ⟨rfl, rfl⟩
          go_wp2_with fail
          go_roundw
          case rel => exact ⟨_, _, _, _, _, _, _, _, _, rfl, rfl, rfl, by omega, by omega, Lib.hid (HT.out.done hm1' hn1' (by rw [← hD'.out]; exact HE.out))⟩
          case measure => simp; try omega
        · rw [hv] at Hk
          have hD' : Hid (mergeL kp XS YS = (Pfx.mk a2 l2) :: mergeL kp TX TY) := Lib.hid (by rw [HD.out, hv]; rfl)
          go_upto_region 16 with fail
          refine (Hk.out _).mono ?_
          rintro e w' ⟨rfl, rfl⟩
          go_upto_region 16 with fail
          have HX := Lib.hid (HT.out.news hF (Pfx.mk a2 l2) rfl)
          have hfp : Hid (Groups pfxR (w'.alloc (.cells #[.int .u32 (Pfx.mk a2 l2).addr, .int .i64 (Pfx.mk a2 l2).len] 35)) F [.int .u32 (Pfx.mk a2 l2).addr, .int .i64 (Pfx.mk a2 l2).len] [(Pfx.mk a2 l2)]) := Lib.hid (Groups.single ⟨rfl, by assumption⟩)
          have h63 : Hid (O.length + 1 ≤ 9223372036854775807) := by show _ ≤ _; have := HO.out; omega
          have h64 : Hid ((O.length + 1) * 16 ≤ 140737488355328) := by show _ ≤ _; have := HO.out; omega
          go_wp2_with (at_builtin; refine wpList_pushB _ rfl (.tmp 60) (.tmp 62) 22 rfl pfxR_ok (w.heap.size + 1 + 1 + 1) 35 ip_ _ 16 Try.underlying22 hip hp0 hp1 hp2 rfl (by decide) F _ O rfl HX.out.own ⟨w'.heap.size, 0, none⟩ 1 1 [.int .u32 (Pfx.mk a2 l2).addr, .int .i64 (Pfx.mk a2 l2).len] [(Pfx.mk a2 l2)] rfl rfl HX.out.news hfp.out HX.out.inF h63.out h64.out HX.out.base ?_)
          intro v5 w5 hv5 hg5 hn5
          obtain ⟨A5, c5, rfl⟩ := hv5.form
          have HY := Lib.hid (HX.out.push hF hv5 hg5 (by rw [World.size_alloc]; exact hn5))
          clear hv5 hg5 hn5
          go_wp2_with fail
          go_roundw
          case rel => exact ⟨_, _, _, _, _, _, _, _, _, rfl, rfl, rfl, by omega, by omega, Lib.hid (HY.out.done hm1' hn1' (by rw [List.append_assoc, List.singleton_append, ← hD'.out]; exact HE.out))⟩
          case measure => simp; try omega
    · obtain ⟨n, rfl⟩ : ∃ n, n1 = n + 1 := ⟨n1 - 1, by omega⟩
      obtain ⟨a1, l1, b1, off1, TX, rfl, rfl, hFb1, hf1, u1, u2, hc1, hc2, _⟩ := pfx_head lX
      have y0 : decide ((n + 1 : Nat) > (0 : Int)) = true := decide_eq_true (by omega)
      have y1 : ((((n + 1 : Nat) : Int)) == 0) = false := by rw [beq_eq_false_iff_ne]; omega
      have hm1' : TX.length = n := by simp at hX; omega
      rcases Nat.eq_zero_or_pos m1 with h2 | h2
      · subst h2
        obtain rfl : YS = [] := List.eq_nil_of_length_eq_zero hY
        have hn1' : ([] : List Pfx).length = 0 := rfl
        obtain ⟨TY, XS, YS, hTY, hXS, hYS⟩ : ∃ TY XS YS : List Pfx, TY = [] ∧ YS = [] ∧ XS = ⟨a1, l1⟩ :: TX := ⟨_, _, _, rfl, rfl, rfl⟩
        have HD : Hid (mergeL kp XS YS = onP (kp true false) ⟨a1, l1⟩ ++ mergeL kp TX TY) := by show _ = _; rw [hTY, hXS, hYS, mergeL]
        rw [← hXS, ← hYS] at HE
        rw [← hTY] at hn1'
        have HT0 := MrgT.start HV.out.1 HV.out.2.1 HV.out.2.2 lX lY hF (Below.refl wr.heap.size wr)
        rw [← hTY] at HT0
        have HT0' := Lib.hid HT0
        clear lX lY HT0 hX hY hTY hXS hYS HV u1 u2
        go_upto_region 11 with fail
        refine wp_gen (fun W => MrgT w F W _ _ _ _ _ _ _ _) HT0'.out ?_
        intro W T
        clear HT0'
        go_upto_region 12 with fail
        obtain ⟨e1X, e2X, AX, g1X, TX⟩ := pfx_headK T.lX
        have q0 := T.pb.cell 0
        have q1 := T.pb.cell 1
        have q2 := T.pb.free 0
        have q3 := T.pb.free 1
        have HT := Lib.hid T
        have HZ := Lib.hid TX
        clear T TX
        go_region
        go_upto_region 15 with fail
        refine wp_gen (fun W => MrgT w F W _ _ _ _ _ _ _ _) ((HT.out.setX hF HZ.out).store hF) ?_
        intro W T
        clear HT HZ q0 q1 q2 q3 e1X e2X g1X
        have Hk := Lib.hid (hkp0.out true false)
        have HT := Lib.hid T
        have q0 := T.pb.cell 0
        have q1 := T.pb.cell 1
        clear T
        cases hv : kp true false
        · rw [hv] at Hk
          have hD' : Hid (mergeL kp XS YS = mergeL kp TX TY) := Lib.hid (by rw [HD.out, hv]; rfl)
          go_wp2_with fail
          refine (Hk.out _).mono ?_
          rintro e w' ⟨rfl, rfl⟩
          go_wp2_with fail
          go_roundw
          case rel => exact ⟨_, _, _, _, _, _, _, _, _, rfl, rfl, rfl, by omega, by omega, Lib.hid (HT.out.done hm1' hn1' (by rw [← hD'.out]; exact HE.out))⟩
          case measure => simp; try omega
        · rw [hv] at Hk
          have hD' : Hid (mergeL kp XS YS = (Pfx.mk a1 l1) :: mergeL kp TX TY) := Lib.hid (by rw [HD.out, hv]; rfl)
          go_upto_region 16 with fail
          refine (Hk.out _).mono ?_
          rintro e w' ⟨rfl, rfl⟩
          go_upto_region 16 with fail
          have HX := Lib.hid (HT.out.news hF (Pfx.mk a1 l1) rfl)
          have hfp : Hid (Groups pfxR (w'.alloc (.cells #[.int .u32 (Pfx.mk a1 l1).addr, .int .i64 (Pfx.mk a1 l1).len] 35)) F [.int .u32 (Pfx.mk a1 l1).addr, .int .i64 (Pfx.mk a1 l1).len] [(Pfx.mk a1 l1)]) := Lib.hid (Groups.single ⟨rfl, by assumption⟩)
          have h63 : Hid (O.length + 1 ≤ 9223372036854775807) := by show _ ≤ _; have := HO.out; omega
          have h64 : Hid ((O.length + 1) * 16 ≤ 140737488355328) := by show _ ≤ _; have := HO.out; omega
          go_wp2_with (at_builtin; refine wpList_pushB _ rfl (.tmp 60) (.tmp 62) 22 rfl pfxR_ok (w.heap.size + 1 + 1 + 1) 35 ip_ _ 16 Try.underlying22 hip hp0 hp1 hp2 rfl (by decide) F _ O rfl HX.out.own ⟨w'.heap.size, 0, none⟩ 1 1 [.int .u32 (Pfx.mk a1 l1).addr, .int .i64 (Pfx.mk a1 l1).len] [(Pfx.mk a1 l1)] rfl rfl HX.out.news hfp.out HX.out.inF h63.out h64.out HX.out.base ?_)
          intro v5 w5 hv5 hg5 hn5
          obtain ⟨A5, c5, rfl⟩ := hv5.form
          have HY := Lib.hid (HX.out.push hF hv5 hg5 (by rw [World.size_alloc]; exact hn5))
          clear hv5 hg5 hn5
          go_wp2_with fail
          go_roundw
          case rel => exact ⟨_, _, _, _, _, _, _, _, _, rfl, rfl, rfl, by omega, by omega, Lib.hid (HY.out.done hm1' hn1' (by rw [List.append_assoc, List.singleton_append, ← hD'.out]; exact HE.out))⟩
          case measure => simp; try omega
      · obtain ⟨m, rfl⟩ : ∃ m, m1 = m + 1 := ⟨m1 - 1, by omega⟩
        obtain ⟨a2, l2, b2, off2, TY, rfl, rfl, hFb2, hf2, u3, u4, hd1, hd2, _⟩ := pfx_head lY
        have y2 : decide ((m + 1 : Nat) > (0 : Int)) = true := decide_eq_true (by omega)
        have y3 : ((((m + 1 : Nat) : Int)) == 0) = false := by rw [beq_eq_false_iff_ne]; omega
        have hn1' : TY.length = m := by simp at hY; omega
        have hlt1 : b1 < wr.heap.size := Nat.lt_of_lt_of_le (hF b1 hFb1) HV.out.1.size
        have hlt2 : b2 < wr.heap.size := Nat.lt_of_lt_of_le (hF b2 hFb2) HV.out.1.size
        have r1 : ∀ w', Below wr.heap.size wr w' → w'.cell? ⟨b1, off1, none⟩ = some (.int .u32 a1) := fun w' h => (h.cell (p := ⟨b1, _, none⟩) hlt1).trans u1
        have r2 : ∀ w', Below wr.heap.size wr w' → w'.cell? ⟨b1, off1 + 1, none⟩ = some (.int .i64 l1) := fun w' h => (h.cell (p := ⟨b1, _, none⟩) hlt1).trans u2
        have r3 : ∀ w', Below wr.heap.size wr w' → w'.cell? ⟨b2, off2, none⟩ = some (.int .u32 a2) := fun w' h => (h.cell (p := ⟨b2, _, none⟩) hlt2).trans u3
        have r4 : ∀ w', Below wr.heap.size wr w' → w'.cell? ⟨b2, off2 + 1, none⟩ = some (.int .i64 l2) := fun w' h => (h.cell (p := ⟨b2, _, none⟩) hlt2).trans u4
        obtain ⟨z, hz⟩ : ∃ z, z = cmpP ⟨a1, l1⟩ ⟨a2, l2⟩ := ⟨_, rfl⟩
        have hc := fun W => ip_CmpB a1 l1 a2 l2 W hf1 hf2
        rw [← hz] at hc
        have Hc := Lib.hid hc
        have HZ0 := Lib.hid hz
        have HXX : ∃ XS YS : List Pfx, XS = ⟨a1, l1⟩ :: TX ∧ YS = ⟨a2, l2⟩ :: TY := ⟨_, _, rfl, rfl⟩
        have HMM : Hid (mergeL kp (⟨a1, l1⟩ :: TX) (⟨a2, l2⟩ :: TY) = if z < 0 then onP (kp true false) ⟨a1, l1⟩ ++ mergeL kp TX (⟨a2, l2⟩ :: TY) else if z = 0 then onP (kp true true) ⟨a2, l2⟩ ++ mergeL kp TX TY else onP (kp false true) ⟨a2, l2⟩ ++ mergeL kp (⟨a1, l1⟩ :: TX) TY) := by show _ = _; rw [hz, mergeL]
        have HTT := Lib.hid (fun W (h : Below wr.heap.size wr W) => MrgT.start HV.out.1 HV.out.2.1 HV.out.2.2 lX lY hF h)
        have hWW : Below wr.heap.size wr wr := Below.refl _ _
        clear hz hc u1 u2 u3 u4 lX lY HV
        go_upto_block 2 with (fail)
        go_cut [11] (fun o wx => o = .int .i64 z ∧ Below wr.heap.size wr wx)
        case first =>
          as_aux_lemma =>
          go_wp2_with fail
          go_region_held3 (fun w' => Below wr.heap.size wr w') (first | (with_reducible exact below_step (by assumption) hb1') | (repeat' (first | (with_reducible exact Below.refl _ _) | (with_reducible assumption) | (with_reducible exact Below.size (by assumption)) | (with_reducible refine Below.drew ?_))))
            (first | (go_at_call 13; (with_reducible refine (Hc.out _).mono ?_); rintro e w1 ⟨rfl, hb1'⟩; have hq : Below wr.heap.size wr w1 := below_step (by assumption) hb1') | fail)
          all_goals (go_wp2_with fail)
          all_goals go_meet
          all_goals exact ⟨rfl, by assumption⟩
        case rest =>
        clear hWW r1 r2 r3 r4 Hc
        obtain ⟨rfl, hWW⟩ := hcut
        have HT0 := Lib.hid (HTT.out _ hWW)
        clear HTT hWW
        go_upto_region 11 with fail
        refine wp_gen (fun W => MrgT w F W _ _ _ _ _ _ _ _) HT0.out ?_
        intro W T
        clear HT0
        rcases Int.lt_trichotomy z 0 with hz | hz | hz
        · have d1 : decide (z ≤ 0) = true := decide_eq_true (by omega)
          have d2 : decide (z ≥ 0) = false := decide_eq_false (by omega)
          obtain ⟨XS, YS, TY', hXS, hYS, hTY⟩ : ∃ XS YS TY' : List Pfx, XS = ⟨a1, l1⟩ :: TX ∧ YS = ⟨a2, l2⟩ :: TY ∧ TY' = ⟨a2, l2⟩ :: TY := ⟨_, _, _, rfl, rfl, rfl⟩
          have HD : Hid (mergeL kp XS YS = onP (kp true false) ⟨a1, l1⟩ ++ mergeL kp TX TY') := by show _ = _; rw [hXS, hYS, hTY, HMM.out, if_pos hz]
          rw [← hXS, ← hYS] at HE
          rw [← hTY] at T
          replace hn1' : TY'.length = m + 1 := by rw [hTY, List.length_cons, hn1']
          clear hXS hYS hTY HMM hX hY HZ0 hz
          go_upto_region 12 with fail
          obtain ⟨e1X, e2X, AX, g1X, TX⟩ := pfx_headK T.lX
          have q0 := T.pb.cell 0
          have q1 := T.pb.cell 1
          have q2 := T.pb.free 0
          have q3 := T.pb.free 1
          have HT := Lib.hid T
          have HZ := Lib.hid TX
          clear T TX
          go_region
          go_upto_region 15 with fail
          refine wp_gen (fun W => MrgT w F W _ _ _ _ _ _ _ _) ((HT.out.setX hF HZ.out).store hF) ?_
          intro W T
          clear HT HZ q0 q1 q2 q3 e1X e2X g1X
          have Hk := Lib.hid (hkp0.out true false)
          have HT := Lib.hid T
          have q0 := T.pb.cell 0
          have q1 := T.pb.cell 1
          clear T
          cases hv : kp true false
          · rw [hv] at Hk
            have hD' : Hid (mergeL kp XS YS = mergeL kp TX TY') := Lib.hid (by rw [HD.out, hv]; rfl)
            go_wp2_with fail
            refine (Hk.out _).mono ?_
            rintro e w' ⟨rfl, rfl⟩
            go_wp2_with fail
            go_roundw
            case rel => exact ⟨_, _, _, _, _, _, _, _, _, rfl, rfl, rfl, by omega, by omega, Lib.hid (HT.out.done hm1' hn1' (by rw [← hD'.out]; exact HE.out))⟩
            case measure => simp; try omega
          · rw [hv] at Hk
            have hD' : Hid (mergeL kp XS YS = (Pfx.mk a1 l1) :: mergeL kp TX TY') := Lib.hid (by rw [HD.out, hv]; rfl)
            go_upto_region 16 with fail
            refine (Hk.out _).mono ?_
            rintro e w' ⟨rfl, rfl⟩
            go_upto_region 16 with fail
            have HX := Lib.hid (HT.out.news hF (Pfx.mk a1 l1) rfl)
            have hfp : Hid (Groups pfxR (w'.alloc (.cells #[.int .u32 (Pfx.mk a1 l1).addr, .int .i64 (Pfx.mk a1 l1).len] 35)) F [.int .u32 (Pfx.mk a1 l1).addr, .int .i64 (Pfx.mk a1 l1).len] [(Pfx.mk a1 l1)]) := Lib.hid (Groups.single ⟨rfl, by assumption⟩)
            have h63 : Hid (O.length + 1 ≤ 9223372036854775807) := by show _ ≤ _; have := HO.out; omega
            have h64 : Hid ((O.length + 1) * 16 ≤ 140737488355328) := by show _ ≤ _; have := HO.out; omega
            go_wp2_with (at_builtin; refine wpList_pushB _ rfl (.tmp 60) (.tmp 62) 22 rfl pfxR_ok (w.heap.size + 1 + 1 + 1) 35 ip_ _ 16 Try.underlying22 hip hp0 hp1 hp2 rfl (by decide) F _ O rfl HX.out.own ⟨w'.heap.size, 0, none⟩ 1 1 [.int .u32 (Pfx.mk a1 l1).addr, .int .i64 (Pfx.mk a1 l1).len] [(Pfx.mk a1 l1)] rfl rfl HX.out.news hfp.out HX.out.inF h63.out h64.out HX.out.base ?_)
            intro v5 w5 hv5 hg5 hn5
            obtain ⟨A5, c5, rfl⟩ := hv5.form
            have HY := Lib.hid (HX.out.push hF hv5 hg5 (by rw [World.size_alloc]; exact hn5))
            clear hv5 hg5 hn5
            go_wp2_with fail
            go_roundw
            case rel => exact ⟨_, _, _, _, _, _, _, _, _, rfl, rfl, rfl, by omega, by omega, Lib.hid (HY.out.done hm1' hn1' (by rw [List.append_assoc, List.singleton_append, ← hD'.out]; exact HE.out))⟩
            case measure => simp; try omega
        · subst hz
          obtain ⟨XS, YS, hXS, hYS⟩ : ∃ XS YS : List Pfx, XS = ⟨a1, l1⟩ :: TX ∧ YS = ⟨a2, l2⟩ :: TY := ⟨_, _, rfl, rfl⟩
          have HD : Hid (mergeL kp XS YS = onP (kp true true) ⟨a2, l2⟩ ++ mergeL kp TX TY) := by show _ = _; rw [hXS, hYS, HMM.out, if_neg (by omega), if_pos rfl]
          rw [← hXS, ← hYS] at HE
          clear hXS hYS HMM hX hY HZ0
          go_upto_region 12 with fail
          obtain ⟨e1X, e2X, AX, g1X, TX⟩ := pfx_headK T.lX
          have q0 := T.pb.cell 0
          have q1 := T.pb.cell 1
          have q2 := T.pb.free 0
          have q3 := T.pb.free 1
          have HT := Lib.hid T
          have HZ := Lib.hid TX
          clear T TX
          go_region
          go_upto_region 14 with fail
          refine wp_gen (fun W => MrgT w F W _ _ _ _ _ _ _ _) ((HT.out.setX hF HZ.out).store hF) ?_
          intro W T
          clear HT HZ q0 q1 q2 q3 e1X e2X g1X
          obtain ⟨e1Y, e2Y, AY, g1Y, TY⟩ := pfx_headK T.lY
          have q0 := T.pb.cell 0
          have q1 := T.pb.cell 1
          have q2 := T.pb.free 0
          have q3 := T.pb.free 1
          have HT := Lib.hid T
          have HZ := Lib.hid TY
          clear T TY
          go_region
          go_upto_region 15 with fail
          refine wp_gen (fun W => MrgT w F W _ _ _ _ _ _ _ _) ((HT.out.setY hF HZ.out).store hF) ?_
          intro W T
          clear HT HZ q0 q1 q2 q3 e1Y e2Y g1Y
          have Hk := Lib.hid (hkp0.out true true)
          have HT := Lib.hid T
          have q0 := T.pb.cell 0
          have q1 := T.pb.cell 1
          clear T
          cases hv : kp true true
          · rw [hv] at Hk
            have hD' : Hid (mergeL kp XS YS = mergeL kp TX TY) := Lib.hid (by rw [HD.out, hv]; rfl)
            go_wp2_with fail
            refine (Hk.out _).mono ?_
            rintro e w' ⟨rfl, rfl⟩
            go_wp2_with fail
            go_roundw
            case rel => exact ⟨_, _, _, _, _, _, _, _, _, rfl, rfl, rfl, by omega, by omega, Lib.hid (HT.out.done hm1' hn1' (by rw [← hD'.out]; exact HE.out))⟩
            case measure => simp; try omega
          · rw [hv] at Hk
            have hD' : Hid (mergeL kp XS YS = (Pfx.mk a2 l2) :: mergeL kp TX TY) := Lib.hid (by rw [HD.out, hv]; rfl)
            go_upto_region 16 with fail
            refine (Hk.out _).mono ?_
            rintro e w' ⟨rfl, rfl⟩
            go_upto_region 16 with fail
            have HX := Lib.hid (HT.out.news hF (Pfx.mk a2 l2) rfl)
            have hfp : Hid (Groups pfxR (w'.alloc (.cells #[.int .u32 (Pfx.mk a2 l2).addr, .int .i64 (Pfx.mk a2 l2).len] 35)) F [.int .u32 (Pfx.mk a2 l2).addr, .int .i64 (Pfx.mk a2 l2).len] [(Pfx.mk a2 l2)]) := Lib.hid (Groups.single ⟨rfl, by assumption⟩)
            have h63 : Hid (O.length + 1 ≤ 9223372036854775807) := by show _ ≤ _; have := HO.out; omega
            have h64 : Hid ((O.length + 1) * 16 ≤ 140737488355328) := by show _ ≤ _; have := HO.out; omega
            go_wp2_with (at_builtin; refine wpList_pushB _ rfl (.tmp 60) (.tmp 62) 22 rfl pfxR_ok (w.heap.size + 1 + 1 + 1) 35 ip_ _ 16 Try.underlying22 hip hp0 hp1 hp2 rfl (by decide) F _ O rfl HX.out.own ⟨w'.heap.size, 0, none⟩ 1 1 [.int .u32 (Pfx.mk a2 l2).addr, .int .i64 (Pfx.mk a2 l2).len] [(Pfx.mk a2 l2)] rfl rfl HX.out.news hfp.out HX.out.inF h63.out h64.out HX.out.base ?_)
            intro v5 w5 hv5 hg5 hn5
            obtain ⟨A5, c5, rfl⟩ := hv5.form
            have HY := Lib.hid (HX.out.push hF hv5 hg5 (by rw [World.size_alloc]; exact hn5))
            clear hv5 hg5 hn5
            go_wp2_with fail
            go_roundw
            case rel => exact ⟨_, _, _, _, _, _, _, _, _, rfl, rfl, rfl, by omega, by omega, Lib.hid (HY.out.done hm1' hn1' (by rw [List.append_assoc, List.singleton_append, ← hD'.out]; exact HE.out))⟩
            case measure => simp; try omega
        · have d1 : decide (z ≤ 0) = false := decide_eq_false (by omega)
          have d2 : decide (z ≥ 0) = true := decide_eq_true (by omega)
          obtain ⟨XS, YS, TX', hXS, hYS, hTX⟩ : ∃ XS YS TX' : List Pfx, XS = ⟨a1, l1⟩ :: TX ∧ YS = ⟨a2, l2⟩ :: TY ∧ TX' = ⟨a1, l1⟩ :: TX := ⟨_, _, _, rfl, rfl, rfl⟩
          have HD : Hid (mergeL kp XS YS = onP (kp false true) ⟨a2, l2⟩ ++ mergeL kp TX' TY) := by show _ = _; rw [hXS, hYS, hTX, HMM.out, if_neg (by omega), if_neg (by omega)]
          rw [← hXS, ← hYS] at HE
          rw [← hTX] at T
          replace hm1' : TX'.length = n + 1 := by rw [hTX, List.length_cons, hm1']
          clear hXS hYS hTX HMM hX hY HZ0 hz
          go_upto_region 14 with fail
          obtain ⟨e1Y, e2Y, AY, g1Y, TY⟩ := pfx_headK T.lY
          have q0 := T.pb.cell 0
          have q1 := T.pb.cell 1
          have q2 := T.pb.free 0
          have q3 := T.pb.free 1
          have HT := Lib.hid T
          have HZ := Lib.hid TY
          clear T TY
          go_region
          go_upto_region 15 with fail
          refine wp_gen (fun W => MrgT w F W _ _ _ _ _ _ _ _) ((HT.out.setY hF HZ.out).store hF) ?_
          intro W T
          clear HT HZ q0 q1 q2 q3 e1Y e2Y g1Y
          have Hk := Lib.hid (hkp0.out false true)
          have HT := Lib.hid T
          have q0 := T.pb.cell 0
          have q1 := T.pb.cell 1
          clear T
          cases hv : kp false true
          · rw [hv] at Hk
            have hD' : Hid (mergeL kp XS YS = mergeL kp TX' TY) := Lib.hid (by rw [HD.out, hv]; rfl)
            go_wp2_with fail
            refine (Hk.out _).mono ?_
            rintro e w' ⟨rfl, rfl⟩
            go_wp2_with fail
            go_roundw
            case rel => exact ⟨_, _, _, _, _, _, _, _, _, rfl, rfl, rfl, by omega, by omega, Lib.hid (HT.out.done hm1' hn1' (by rw [← hD'.out]; exact HE.out))⟩
            case measure => simp; try omega
          · rw [hv] at Hk
            have hD' : Hid (mergeL kp XS YS = (Pfx.mk a2 l2) :: mergeL kp TX' TY) := Lib.hid (by rw [HD.out, hv]; rfl)
            go_upto_region 16 with fail
            refine (Hk.out _).mono ?_
            rintro e w' ⟨rfl, rfl⟩
            go_upto_region 16 with fail
            have HX := Lib.hid (HT.out.news hF (Pfx.mk a2 l2) rfl)
            have hfp : Hid (Groups pfxR (w'.alloc (.cells #[.int .u32 (Pfx.mk a2 l2).addr, .int .i64 (Pfx.mk a2 l2).len] 35)) F [.int .u32 (Pfx.mk a2 l2).addr, .int .i64 (Pfx.mk a2 l2).len] [(Pfx.mk a2 l2)]) := Lib.hid (Groups.single ⟨rfl, by assumption⟩)
            have h63 : Hid (O.length + 1 ≤ 9223372036854775807) := by show _ ≤ _; have := HO.out; omega
            have h64 : Hid ((O.length + 1) * 16 ≤ 140737488355328) := by show _ ≤ _; have := HO.out; omega
            go_wp2_with (at_builtin; refine wpList_pushB _ rfl (.tmp 60) (.tmp 62) 22 rfl pfxR_ok (w.heap.size + 1 + 1 + 1) 35 ip_ _ 16 Try.underlying22 hip hp0 hp1 hp2 rfl (by decide) F _ O rfl HX.out.own ⟨w'.heap.size, 0, none⟩ 1 1 [.int .u32 (Pfx.mk a2 l2).addr, .int .i64 (Pfx.mk a2 l2).len] [(Pfx.mk a2 l2)] rfl rfl HX.out.news hfp.out HX.out.inF h63.out h64.out HX.out.base ?_)
            intro v5 w5 hv5 hg5 hn5
            obtain ⟨A5, c5, rfl⟩ := hv5.form
            have HY := Lib.hid (HX.out.push hF hv5 hg5 (by rw [World.size_alloc]; exact hn5))
            clear hv5 hg5 hn5
            go_wp2_with fail
            go_roundw
            case rel => exact ⟨_, _, _, _, _, _, _, _, _, rfl, rfl, rfl, by omega, by omega, Lib.hid (HY.out.done hm1' hn1' (by rw [List.append_assoc, List.singleton_append, ← hD'.out]; exact HE.out))⟩
            case measure => simp; try omega
end Go.Proofs.Ythiodgnklfbmjaa

