/- What run makes of a header, in plain words. -/
import Derived.Test.YtjeligbgcofaeaaDoorPoD
import Derived.Test.YtjeligbgcofaeaaDoorPoE
import Derived.Test.YtjeligbgcofaeaaDoorRuC
namespace Go.Proofs.YtjeligbgcofaeaaDoor
open Go.RowKit
set_option linter.unusedVariables false
set_option linter.unusedSimpArgs false

theorem okH_withP {h : Hdr} (ho : h.Ok) {k : Nat} {n : Int} (hk : k < 9) (h0 : 0 ≤ n) (h1 : n ≤ fullN k) : okH (withH h k n) = true := by
  have o := ho.ok
  simp only [okH, chkL, okP, List.all_cons, List.all_nil, Bool.and_true, Bool.and_eq_true, decide_eq_true_eq] at o ⊢
  obtain ⟨o1, o2, o3, o4, o5⟩ := o
  match k, hk with
  | 0, _ => exact ⟨⟨h0, h1⟩, o2, o3, o4, o5⟩
  | 1, _ => exact ⟨o1, o2, o3, o4, o5⟩
  | 2, _ => exact ⟨o1, o2, o3, o4, o5⟩
  | 3, _ => exact ⟨o1, ⟨h0, h1⟩, o3, o4, o5⟩
  | 4, _ => exact ⟨o1, o2, o3, o4, o5⟩
  | 5, _ => exact ⟨o1, o2, o3, o4, o5⟩
  | 6, _ => exact ⟨o1, o2, ⟨h0, h1⟩, o4, o5⟩
  | 7, _ => exact ⟨o1, o2, o3, ⟨h0, h1⟩, o5⟩
  | 8, _ => exact ⟨o1, o2, o3, o4, ⟨h0, h1⟩⟩
theorem with_okP {h : Hdr} (ho : h.Ok) {k : Nat} {n : Int} (hk : k < 9) (h0 : 0 ≤ n) (h1 : n ≤ fullN k) : (withH h k n).Ok := ⟨withH_fits ho.fits hk h0 h1, okH_withP ho hk h0 h1⟩
def withO (h : OHdr) (f v : Int) : OHdr := if hc : (0 ≤ f ∧ f < 9) ∧ 0 ≤ v ∧ v ≤ fullN f.toNat then ⟨withH h.1 f.toNat v, with_okP h.2 (by omega) hc.2.1 hc.2.2⟩ else h
theorem withO_val {h : OHdr} {k : Nat} {v : Int} (hk : k < 9) (h0 : 0 ≤ v) (h1 : v ≤ fullN k) : (withO h (k : Int) v).1 = withH h.1 k v := by
  unfold withO
  rw [dif_pos ⟨by omega, h0, by simpa using h1⟩]
  rfl
/-- one more row of headers beside the others; none if there are too many -/
def joinF (acc : List OHdr) (r : List OHdr × Bool) : Option (List OHdr) := if r.2 = false ∨ 64 < (unionO acc r.1).length then none else some (unionO acc r.1)
def eachF (run : OHdr → List OHdr × Bool) : List OHdr → List OHdr → List OHdr × Bool
  | [], acc => (acc, true)
  | g :: gs, acc => match joinF acc (run g) with
    | none => ([], false)
    | some a => eachF run gs a
mutual
def runN : Nd → OHdr → List OHdr × Bool
  | .mk k f v m ks, h =>
    if k = 12 then ([h], true)
    else if k = 13 then runFil ks h
    else if k = 14 then ([withO h f v], true)
    else if k = 15 then runPar ks h []
    else if k = 16 then runSeq ks [h]
    else if k = 17 then runIf ks h
    else ([], true)
def runFil : List Nd → OHdr → List OHdr × Bool
  | [p], h => if holdsN p h.1 then ([h], true) else ([], true)
  | _, _ => ([], true)
def runPar : List Nd → OHdr → List OHdr → List OHdr × Bool
  | [], _, out => (out, true)
  | x :: r, h, out => match joinF out (runN x h) with
    | none => ([], false)
    | some a => runPar r h a
def runSeq : List Nd → List OHdr → List OHdr × Bool
  | [], out => (out, true)
  | x :: r, out => match eachF (fun g => runN x g) out [] with
    | (_, false) => ([], false)
    | (a, true) => runSeq r a
def runIf : List Nd → OHdr → List OHdr × Bool
  | [p, a, b], h => if holdsN p h.1 then runN a h else runN b h
  | _, _ => ([], true)
end
mutual
/-- what run leans on -/
def goodR : Nd → Bool
  | .mk k f v _ ks =>
    if k = 13 then goodFil ks
    else if k = 14 then decide (0 ≤ f) && decide (f < 9) && decide (v ≤ fullI f)
    else if k = 15 ∨ k = 16 then goodRs ks
    else if k = 17 then goodIf ks
    else true
def goodFil : List Nd → Bool
  | [p] => fOk p
  | _ => false
def goodRs : List Nd → Bool
  | [] => true
  | x :: r => goodR x && goodRs r
def goodIf : List Nd → Bool
  | [p, a, b] => fOk p && (goodR a && goodR b)
  | _ => false
end
theorem goodRs_all : ∀ {ks : List Nd}, goodRs ks = true → ∀ x ∈ ks, goodR x = true
  | [], _, x, hx => by cases hx
  | y :: r, h, x, hx => by
    rw [goodRs, Bool.and_eq_true] at h
    rcases List.mem_cons.1 hx with rfl | hx
    · exact h.1
    · exact goodRs_all h.2 x hx
theorem joinF_len {acc : List OHdr} {r : List OHdr × Bool} {a : List OHdr} (h : joinF acc r = some a) : a.length ≤ 64 := by
  unfold joinF at h
  split at h
  · cases h
  · rename_i hn
    cases h
    omega
theorem eachF_len (run : OHdr → List OHdr × Bool) : ∀ (gs acc : List OHdr), acc.length ≤ 64 → (eachF run gs acc).1.length ≤ 64
  | [], acc, h => h
  | g :: gs, acc, h => by
    rw [eachF]
    split
    · simp
    · rename_i a ha
      exact eachF_len run gs a (joinF_len ha)
mutual
theorem runN_len : ∀ (x : Nd) (h : OHdr), (runN x h).1.length ≤ 64
  | .mk k f v m ks, h => by
    rw [runN]
    split
    · simp
    · split
      · exact runFil_len ks h
      · split
        · simp
        · split
          · exact runPar_len ks h [] (by simp)
          · split
            · exact runSeq_len ks [h] (by simp)
            · split
              · exact runIf_len ks h
              · simp
theorem runFil_len : ∀ (ks : List Nd) (h : OHdr), (runFil ks h).1.length ≤ 64
  | [], h => by rw [runFil]; simp; intro p hp; cases hp
  | [p], h => by rw [runFil]; split <;> simp
  | p :: q :: r, h => by rw [runFil]; simp; intro x hx; cases hx
theorem runPar_len : ∀ (ks : List Nd) (h : OHdr) (out : List OHdr), out.length ≤ 64 → (runPar ks h out).1.length ≤ 64
  | [], h, out, hl => by rw [runPar]; exact hl
  | x :: r, h, out, hl => by
    rw [runPar]
    split
    · simp
    · rename_i a ha
      exact runPar_len r h a (joinF_len ha)
theorem runSeq_len : ∀ (ks : List Nd) (out : List OHdr), out.length ≤ 64 → (runSeq ks out).1.length ≤ 64
  | [], out, hl => by rw [runSeq]; exact hl
  | x :: r, out, hl => by
    rw [runSeq]
    split
    · simp
    · rename_i a ha
      have := eachF_len (fun g => runN x g) out [] (by simp)
      rw [ha] at this
      exact runSeq_len r a this
theorem runIf_len : ∀ (ks : List Nd) (h : OHdr), (runIf ks h).1.length ≤ 64
  | [], h => by rw [runIf]; simp; intro p a b hp; cases hp
  | [p], h => by rw [runIf]; simp; intro p a b hp; cases hp
  | [p, q], h => by rw [runIf]; simp; intro p a b hp; cases hp
  | [p, a, b], h => by
    rw [runIf]
    split
    · exact runN_len a h
    · exact runN_len b h
  | p :: a :: b :: d :: r, h => by rw [runIf]; simp; intro p a b hp; cases hp
end
end Go.Proofs.YtjeligbgcofaeaaDoor
