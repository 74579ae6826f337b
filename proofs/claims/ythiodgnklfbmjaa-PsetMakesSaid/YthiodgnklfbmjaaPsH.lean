/- Groups: what they are, and a slice of groups of the call's own. -/
import Derived.Test.YthiodgnklfbmjaaPsG
import Derived.Test.YthiodgnklfbmjaaMapS
namespace Go.Proofs.Ythiodgnklfbmjaa
open Go.RowKit
set_option linter.unusedVariables false

def keyP (bys : List (List Pfx)) (p : Pfx) : List Bool := bys.map fun s => memP s p
def byteOf (b : Bool) : Int := if b then 1 else 0
def keyC (bs : List Bool) : List Value := bs.map fun b => Value.int .u8 (byteOf b)
def keyU (bs : List Bool) : List UInt8 := bs.map fun b => UInt8.ofNat (byteOf b).toNat
theorem keyU_inj : ∀ {a b : List Bool}, keyU a = keyU b → a = b
  | [], [], _ => rfl
  | [], b :: r, h => by cases h
  | a :: r, [], h => by cases h
  | a :: r, b :: s, h => by
    simp only [keyU, List.map_cons, List.cons.injEq] at h
    have h1 : a = b := by
      have h2 := h.1
      cases a <;> cases b <;> first | rfl | exact absurd h2 (by decide)
    rw [h1, keyU_inj (a := r) (b := s) h.2]
def fK (ks : List (List Bool)) (u : List UInt8) : Option Int := if ks.findIdx (fun k => keyU k == u) < ks.length then some (ks.findIdx (fun k => keyU k == u) : Int) else none
def idxK (ks : List (List Bool)) (key : List Bool) : Nat := ks.findIdx (· == key)
theorem idxK_eq (ks : List (List Bool)) (key : List Bool) : ks.findIdx (fun k => keyU k == keyU key) = idxK ks key := by
  unfold idxK
  congr 1
  funext k
  rw [Bool.eq_iff_iff, beq_iff_eq, beq_iff_eq]
  exact ⟨keyU_inj, fun h => by rw [h]⟩
theorem fK_key (ks : List (List Bool)) (key : List Bool) : fK ks (keyU key) = if idxK ks key < ks.length then some (idxK ks key : Int) else none := by
  unfold fK
  rw [idxK_eq]
theorem fK_put {ks : List (List Bool)} {key : List Bool} (h : ¬ idxK ks key < ks.length) : putS (fK ks) (keyU key) ks.length = fK (ks ++ [key]) := by
  funext u
  unfold putS fK
  rw [List.findIdx_append]
  by_cases hu : u = keyU key
  · subst hu
    rw [if_pos rfl, idxK_eq, if_neg h]
    simp
  · rw [if_neg hu]
    by_cases h2 : ks.findIdx (fun k => keyU k == u) < ks.length
    · rw [if_pos h2, if_pos h2, if_pos (by simp; omega)]
    · rw [if_neg h2, if_neg h2]
      have h3 : (keyU key == u) = false := by rw [beq_eq_false_iff_ne]; exact fun e => hu e.symm
      simp [h3]
      omega
abbrev GSt := List (List Bool × List Pfx)
def keysG (st : GSt) : List (List Bool) := st.map (·.1)
def groupsG (st : GSt) : List (List Pfx) := st.map (·.2)
def idxG (st : GSt) (key : List Bool) : Nat := idxK (keysG st) key
def baseG (st : GSt) (key : List Bool) : GSt := if idxG st key < st.length then st else st ++ [(key, [])]
def stepG (bys : List (List Pfx)) (st : GSt) (p : Pfx) : GSt := (baseG st (keyP bys p)).modify (idxG st (keyP bys p)) fun kg => (kg.1, kg.2 ++ [p])
def groupSt (bys : List (List Pfx)) (all : List Pfx) : GSt := all.foldl (stepG bys) []
def groupL (bys : List (List Pfx)) (all : List Pfx) : List (List Pfx) := groupsG (groupSt bys all)
theorem idxG_lt (st : GSt) (key : List Bool) : idxG st key < (baseG st key).length := by
  unfold baseG
  split
  · assumption
  · have h1 : idxG st key ≤ (keysG st).length := List.findIdx_le_length
    have h2 : (keysG st).length = st.length := by simp [keysG]
    rw [List.length_append, List.length_singleton]
    omega
theorem idxG_new {st : GSt} {key : List Bool} (h : ¬ idxG st key < st.length) : idxG st key = st.length := by
  have h1 : idxG st key ≤ (keysG st).length := List.findIdx_le_length
  have h2 : (keysG st).length = st.length := by simp [keysG]
  omega
theorem groupsG_step (bys : List (List Pfx)) (st : GSt) (p : Pfx) (g : List Pfx) (hg : (groupsG (baseG st (keyP bys p)))[idxG st (keyP bys p)]? = some g) :
    groupsG (stepG bys st p) = (groupsG (baseG st (keyP bys p))).set (idxG st (keyP bys p)) (g ++ [p]) := by
  unfold stepG groupsG at *
  apply List.ext_getElem?
  intro i
  rw [List.getElem?_map, List.getElem?_modify, List.getElem?_set]
  rw [List.getElem?_map] at hg
  by_cases hi : idxG st (keyP bys p) = i
  · subst hi
    rw [if_pos rfl]
    simp only [if_true]
    cases hq : (baseG st (keyP bys p))[idxG st (keyP bys p)]? with
    | none => rw [hq] at hg; cases hg
    | some kg =>
      rw [hq] at hg
      simp at hg
      subst hg
      have := (List.getElem?_eq_some_iff.1 hq).1
      simp [this]
  · rw [if_neg hi, List.getElem?_map]
    simp [hi]
theorem keysG_step (bys : List (List Pfx)) (st : GSt) (p : Pfx) : keysG (stepG bys st p) = keysG (baseG st (keyP bys p)) := by
  unfold stepG keysG
  apply List.ext_getElem?
  intro i
  rw [List.getElem?_map, List.getElem?_modify, List.getElem?_map]
  cases (baseG st (keyP bys p))[i]? with
  | none => rfl
  | some kg => by_cases hi : idxG st (keyP bys p) = i <;> simp [hi]

theorem Blk.grownO' {w w' : World} {g : Nat} {r : Option Nat} {t : TypeId} {cs : Array Value} (h : Blk w g t cs) (k : w.grownBy w' r) (hg : ∀ g', r = some g' → g ≠ g') : Blk w' g t cs :=
  ⟨(k.block g h.lt (fun e => hg g e.symm rfl)).trans h.heap⟩
structure OutR (w : World) (F : Nat → Prop) (base : Nat) (v : Value) (us : List Value) (gs : List (List Pfx)) : Prop where
  row : w.ownsRow base 26 1 v gs.length us
  no : ∀ b, v.ownBlock = some b → ¬ F b
  own : ∀ (i : Nat) (u : Value) (g : List Pfx), us[i]? = some u → gs[i]? = some g → ownR 35 2 pfxR w F base u g
  apart : ∀ (i : Nat) (u : Value) (b : Nat), us[i]? = some u → u.ownBlock = some b → v.ownBlock ≠ some b
  two : ∀ (i j : Nat) (u u' : Value) (b : Nat), i ≠ j → us[i]? = some u → us[j]? = some u' → u.ownBlock = some b → u'.ownBlock ≠ some b
theorem OutR.len {w : World} {F : Nat → Prop} {base : Nat} {v : Value} {us : List Value} {gs : List (List Pfx)} (h : OutR w F base v us gs) : us.length = gs.length := by have := h.row.1; omega
theorem OutR.nil (w : World) (F : Nat → Prop) (base : Nat) : OutR w F base (.slice none 0 0) [] [] :=
  ⟨World.ownsRow_nil _ _ _ _, by simp [Value.ownBlock], by simp, by simp, by simp⟩
theorem OutR.kept {w w' : World} {F F' : Nat → Prop} {base : Nat} {v : Value} {us : List Value} {gs : List (List Pfx)} {row : Option Nat} (h : OutR w F base v us gs) (hg : w.grownBy w' row) (hr : ∀ g, row = some g → g < base)
    (hF : ∀ b, F b → w'.heap[b]? = w.heap[b]?) (hs : ∀ b, F b → F' b) (hn : ∀ b, F' b → F b ∨ b < base ∨ w.heap.size ≤ b) : OutR w' F' base v us gs := by
  have hv : ∀ b, v.ownBlock = some b → base ≤ b ∧ b < w.heap.size := h.row.lt
  refine ⟨h.row.kept hg ?_, fun b hb hF' => ?_, fun i u g hu hgi => ?_, h.apart, h.two⟩
  · cases hvb : v.ownBlock with
    | none => exact .inl rfl
    | some b => exact .inr (fun e => by have := hr b e.symm; have := hv b hvb; omega)
  · have := hv b hb
    rcases hn b hF' with h1 | h1 | h1
    · exact h.no b hb h1
    · omega
    · omega
  · have ho := h.own i u g hu hgi
    refine ho.kept pfxR_ok hg ?_ hF hs fun b hb hF' => ?_
    · cases hub : u.ownBlock with
      | none => exact .inl rfl
      | some b => exact .inr (fun e => by have := hr b e.symm; have := ho.lt b hub; omega)
    · have := ho.lt b hb
      rcases hn b hF' with h1 | h1 | h1
      · obtain ⟨_, _, _, h3⟩ := ho; exact h3 b hb h1
      · omega
      · omega
/-- one more group, with nothing in it -/
theorem OutR.add {w w' : World} {F : Nat → Prop} {base : Nat} {v v' : Value} {us : List Value} {gs : List (List Pfx)} (h : OutR w F base v us gs) (hrow : w'.ownsRow base 26 1 v' (gs.length + 1) (us ++ [.slice none 0 0])) (hg : w.grownBy w' v.ownBlock) (hv : v'.ownBlock = v.ownBlock ∨ v'.ownBlock = some w.heap.size)
    (hF : InF F w) : OutR w' F base v' (us ++ [.slice none 0 0]) (gs ++ [[]]) := by
  have hlen := h.len
  have get : ∀ i u, (us ++ [Value.slice none 0 0])[i]? = some u → us[i]? = some u ∨ (i = us.length ∧ u = .slice none 0 0) := fun i u hu => by
    rcases Nat.lt_or_ge i us.length with hi | hi
    · rw [List.getElem?_append_left hi] at hu; exact .inl hu
    · rw [List.getElem?_append_right hi] at hu
      have := (List.getElem?_eq_some_iff.1 hu).1
      simp at this
      have e : i = us.length := by omega
      subst e
      simp at hu
      exact .inr ⟨rfl, hu.symm⟩
  refine ⟨by rw [List.length_append]; exact hrow, fun b hb hFb => ?_, fun i u g hu hgi => ?_, fun i u b hu hub hvb => ?_, fun i j u u' b hij hu hu' hub hub' => ?_⟩
  · rcases hv with h1 | h1
    · exact h.no b (h1 ▸ hb) hFb
    · rw [h1] at hb
      cases hb
      have := hF _ hFb
      omega
  · rcases get i u hu with h1 | ⟨h1, h2⟩
    · have hi := (List.getElem?_eq_some_iff.1 h1).1
      rw [List.getElem?_append_left (by omega)] at hgi
      have ho := h.own i u g h1 hgi
      refine ho.kept pfxR_ok hg ?_ (fun b hb => hg.block b (hF b hb) fun e => h.no b e.symm hb) (fun _ h => h) ?_
      · cases hub : u.ownBlock with
        | none => exact .inl rfl
        | some b => exact .inr (fun e => h.apart i u b h1 hub e.symm)
      · obtain ⟨_, _, _, h3⟩ := ho; exact h3
    · subst h2
      rw [h1, List.getElem?_append_right (by omega)] at hgi
      rw [hlen] at hgi
      simp at hgi
      subst hgi
      exact ownR.nil
  · rcases get i u hu with h1 | ⟨h1, h2⟩
    · have hi := (List.getElem?_eq_some_iff.1 h1).1
      obtain ⟨g, hgi⟩ : ∃ g, gs[i]? = some g := ⟨_, List.getElem?_eq_getElem (by omega)⟩
      have := (h.own i u g h1 hgi).lt b hub
      rcases hv with h3 | h3
      · exact h.apart i u b h1 hub (h3 ▸ hvb)
      · rw [h3] at hvb
        cases hvb
        omega
    · subst h2
      simp [Value.ownBlock] at hub
  · rcases get i u hu with h1 | ⟨h1, h2⟩
    · rcases get j u' hu' with h3 | ⟨h3, h4⟩
      · exact h.two i j u u' b hij h1 h3 hub hub'
      · subst h4
        simp [Value.ownBlock] at hub'
    · subst h2
      simp [Value.ownBlock] at hub
/-- a group has grown, and its slice is stored -/
theorem OutR.put {X w2 : World} {F : Nat → Prop} {base k bv n c : Nat} {us : List Value} {gs : List (List Pfx)} {u u2 : Value} {g g2 : List Pfx} (h : OutR X F base (.slice (some ⟨bv, 0, none⟩) n c) us gs) (hu : us[k]? = some u) (hgk : gs[k]? = some g)
    (h2 : ownR 35 2 pfxR w2 F base u2 g2) (hg : X.grownBy w2 u.ownBlock) (hv : u2.ownBlock = u.ownBlock ∨ u2.ownBlock = some X.heap.size) (h1 : u2.oneCell' = true) (hF : InF F X) :
    OutR (w2.setCell ⟨bv, k, none⟩ u2) F base (.slice (some ⟨bv, 0, none⟩) n c) (us.set k u2) (gs.set k g2) := by
  have hlen := h.len
  have hk := (List.getElem?_eq_some_iff.1 hu).1
  have hbv := h.row.lt bv rfl
  have hun : ∀ b, u.ownBlock = some b → bv ≠ b := fun b hb e => h.apart k u b hu hb (by rw [← e]; rfl)
  have hgs := grownBy_setCell w2 bv k u2
  have hn : n = gs.length := by
    rcases h.row.2 with ⟨h3, h4⟩ | ⟨_, _, _, h3, _⟩
    · cases h3
    · cases h3; rfl
  subst hn
  obtain ⟨T, hblk, hb, hc, hm, hl, hx⟩ := ownsRow_blk h.row
  have hblk2 : Blk w2 bv 26 (us ++ T).toArray := hblk.grownO' hg hun
  have hrow : (w2.setCell ⟨bv, k, none⟩ u2).ownsRow base 26 1 (.slice (some ⟨bv, 0, none⟩) gs.length c) gs.length (us.set k u2) := by
    have h5 := hblk2.set_ k u2
    rw [List.set_append_left _ _ hk] at h5
    exact blk_ownsRow h5 hb hc hm (by rw [List.length_append, List.length_set, ← List.length_append]; exact hl) (by rw [List.length_set]; exact hx)
  have get : ∀ i x, (us.set k u2)[i]? = some x → (i ≠ k ∧ us[i]? = some x) ∨ (i = k ∧ x = u2) := fun i x hx => by
    rw [List.getElem?_set] at hx
    by_cases hi : k = i
    · subst hi
      rw [if_pos rfl, if_pos hk] at hx
      exact .inr ⟨rfl, (Option.some.inj hx).symm⟩
    · rw [if_neg hi] at hx
      exact .inl ⟨fun e => hi e.symm, hx⟩
  have keepF : ∀ b, F b → (w2.setCell ⟨bv, k, none⟩ u2).heap[b]? = w2.heap[b]? := fun b hb => by
    have hbX := hF b hb
    exact hgs.block b (Nat.lt_of_lt_of_le hbX hg.size) fun e => by cases e; exact h.no _ rfl hb
  have u2lt := h2.lt
  have u2b : ∀ b, u2.ownBlock = some b → bv ≠ b := fun b hb e => by
    rcases hv with h3 | h3
    · exact hun b (h3 ▸ hb) e
    · rw [h3] at hb
      cases hb
      omega
  refine ⟨by rw [List.length_set]; exact hrow, h.no, fun i x y hx hy => ?_, fun i x b hx hxb => ?_, fun i j x x' b hij hx hx' hxb hxb' => ?_⟩
  · rcases get i x hx with ⟨h3, h4⟩ | ⟨h3, h4⟩
    · rw [List.getElem?_set, if_neg (fun e => h3 e.symm)] at hy
      have ho := h.own i x y h4 hy
      have ho2 : ownR 35 2 pfxR w2 F base x y := by
        refine ho.kept pfxR_ok hg ?_ (fun b hb => hg.block b (hF b hb) fun e => ?_) (fun _ h => h) ?_
        · cases hxb : x.ownBlock with
          | none => exact .inl rfl
          | some b => exact .inr (fun e => h.two k i u x b (fun e => h3 e.symm) hu h4 e.symm hxb)
        · have hok := h.own k u g hu hgk
          obtain ⟨_, _, _, h6⟩ := hok
          exact h6 b e.symm hb
        · obtain ⟨_, _, _, h6⟩ := ho; exact h6
      refine ho2.kept pfxR_ok hgs ?_ keepF (fun _ h => h) ?_
      · cases hxb : x.ownBlock with
        | none => exact .inl rfl
        | some b => exact .inr (fun e => by cases e; exact h.apart i x bv h4 hxb rfl)
      · obtain ⟨_, _, _, h6⟩ := ho; exact h6
    · subst h3
      subst h4
      rw [List.getElem?_set_self (by omega)] at hy
      cases hy
      refine h2.kept pfxR_ok hgs ?_ keepF (fun _ h => h) ?_
      · cases hxb : x.ownBlock with
        | none => exact .inl rfl
        | some b => exact .inr (fun e => by cases e; exact u2b _ hxb rfl)
      · obtain ⟨_, _, _, h6⟩ := h2; exact h6
  · rcases get i x hx with ⟨h3, h4⟩ | ⟨h3, h4⟩
    · exact h.apart i x b h4 hxb
    · subst h4
      intro e
      cases e
      exact u2b _ hxb rfl
  · rcases get i x hx with ⟨h3, h4⟩ | ⟨h3, h4⟩
    · rcases get j x' hx' with ⟨h5, h6⟩ | ⟨h5, h6⟩
      · exact h.two i j x x' b hij h4 h6 hxb hxb'
      · subst h6
        obtain ⟨y, hy⟩ : ∃ y, gs[i]? = some y := ⟨_, List.getElem?_eq_getElem (by have := (List.getElem?_eq_some_iff.1 h4).1; omega)⟩
        have hlt := (h.own i x y h4 hy).lt b hxb
        rcases hv with h7 | h7
        · exact h.two i k x u b h3 h4 hu hxb (h7 ▸ hxb')
        · rw [h7] at hxb'
          cases hxb'
          omega
    · subst h4
      rcases get j x' hx' with ⟨h5, h6⟩ | ⟨h5, h6⟩
      · obtain ⟨y, hy⟩ : ∃ y, gs[j]? = some y := ⟨_, List.getElem?_eq_getElem (by have := (List.getElem?_eq_some_iff.1 h6).1; omega)⟩
        have hlt := (h.own j x' y h6 hy).lt b hxb'
        rcases hv with h7 | h7
        · exact h.two k j u x' b (fun e => h5 e.symm) hu h6 (h7 ▸ hxb) hxb'
        · rw [h7] at hxb
          cases hxb
          omega
      · exact hij (h3.trans h5.symm)
/-- the groups, frozen -/
theorem OutR.freeze {w : World} {F : Nat → Prop} {base : Nat} {v : Value} {us : List Value} {gs : List (List Pfx)} (h : OutR w F base v us gs) :
    listR 1 (listR 2 pfxR) w (fun b => F b ∨ v.ownBlock = some b ∨ ∃ (i : Nat) (u : Value), us[i]? = some u ∧ u.ownBlock = some b) [v] gs := by
  have hlen := h.len
  rcases h.row.2 with ⟨hv, hn⟩ | ⟨g, cap, cur, hv, hb, hg, hc, hm, hs, ht⟩
  · have : gs = [] := List.eq_nil_of_length_eq_zero hn
    subst this
    subst hv
    exact listR.nil
  · subst hv
    refine ⟨_, _, rfl, hc, hm, fun k x hx => ?_⟩
    have hk := (List.getElem?_eq_some_iff.1 hx).1
    obtain ⟨u, hu⟩ : ∃ u, us[k]? = some u := ⟨_, List.getElem?_eq_getElem (by omega)⟩
    have ho := (h.own k u x hu hx).freeze pfxR_ok
    refine ⟨g, 0, [u], rfl, .inr (.inl rfl), (listR_ok pfxR_ok).keep ho (fun _ _ => rfl) fun b hb => ?_, fun j z hz => ?_⟩
    · rcases hb with hb | hb
      · exact .inl hb
      · exact .inr (.inr ⟨k, u, hu, hb⟩)
    · have hj := (List.getElem?_eq_some_iff.1 hz).1
      simp at hj
      subst hj
      simp at hz
      subst hz
      have h4 := h.row.cells (g := g) rfl k u hu
      rw [Addr.add_mid] at h4
      simpa using h4
end Go.Proofs.Ythiodgnklfbmjaa
