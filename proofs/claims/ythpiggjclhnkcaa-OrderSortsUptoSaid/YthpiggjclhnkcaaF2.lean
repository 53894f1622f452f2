/- What seals do. -/
import Derived.Test.YthpiggjclhnkcaaF0
import Derived.Test.YthpiggjclhnkcaaP1
namespace Go.Proofs.Ythpiggjclhnkcaa.AM
open Go
set_option linter.unusedVariables false
set_option linter.unusedSimpArgs false
/-- A seal's level; of a number that is none the top. -/
def Lt.lev (l : Lt) (n : Int) : Int := if n < 0 ∨ ((l.n : Nat) : Int) ≤ n then l.top else n
def Term.isS (t : Term) : Bool := decide (t.kind = 4) && decide (t.kids.length = 1)
def putS (t : Term) (n : Int) : Term := .node 4 n ⟨#[]⟩ [t]
mutual
def Term.sj (l : Lt) : Term → Int
  | .node k n s ks => sjs l ks (if k = 4 then l.lev n else l.bottom)
def sjs (l : Lt) : List Term → Int → Int
  | [], a => a
  | t :: ts, a => sjs l ts (l.join a (t.sj l))
end
mutual
def Term.erase : Term → Term
  | .node k n s ks => if k = 4 ∧ ks.length = 1 then (erases ks).headD (.node k n s []) else .node k n s (erases ks)
def erases : List Term → List Term
  | [] => []
  | t :: ts => t.erase :: erases ts
end
mutual
def Term.opn (l : Lt) : Term → Int → Term × Int
  | .node k n s ks, a => if k = 4 ∧ ks.length = 1 then opnK l ks (l.join a (l.lev n)) else (.node k n s ks, a)
def opnK (l : Lt) : List Term → Int → Term × Int
  | [], a => (.node 0 0 ⟨#[]⟩ [], a)
  | t :: _, a => t.opn l a
end
def puts4 (n : Int) (l : List Term) : List Term := l.map fun t => putS t n
def sopen (l : Lt) (t : Term) : Term × Int :=
  if t.isS = true then (.node (t.opn l l.bottom).1.kind (t.opn l l.bottom).1.num (t.opn l l.bottom).1.name (puts4 (t.opn l l.bottom).2 (t.opn l l.bottom).1.kids), (t.opn l l.bottom).2) else (t, l.bottom)
def hole : ByteArray := ⟨#[104, 111, 108, 101]⟩
mutual
def Term.hide (l : Lt) (lv : Int) : Term → Term
  | .node k n s ks => if k = 4 ∧ l.leq (l.lev n) lv = false then .node 3 0 hole [] else .node k n s (hides l lv ks)
def hides (l : Lt) (lv : Int) : List Term → List Term
  | [] => []
  | t :: ts => t.hide l lv :: hides l lv ts
end
theorem erases_map : ∀ l, erases l = l.map Term.erase
  | [] => rfl
  | t :: l => by rw [erases, erases_map l]; rfl
theorem erases_len (l : List Term) : (erases l).length = l.length := by rw [erases_map, List.length_map]
theorem erases_take {l : List Term} {i : Nat} (h : i < l.length) : erases (l.take (i + 1)) = erases (l.take i) ++ [l[i].erase] := by
  rw [erases_map, erases_map, List.take_succ_eq_append_getElem h, List.map_append]; rfl
theorem isS_iff {t : Term} : t.isS = true ↔ t.kind = 4 ∧ t.kids.length = 1 := by simp [Term.isS]
theorem erase_seal {t : Term} (h : t.isS = true) (hk : 0 < t.kids.length) : t.erase = t.kids[0].erase := by
  obtain ⟨h1, h2⟩ := isS_iff.1 h
  cases t with
  | node k n s ks =>
    obtain rfl : k = 4 := h1
    have h2 : ks.length = 1 := h2
    match ks, h2 with
    | [x], _ => simp [Term.erase, erases, Term.kids]
theorem erase_node {t : Term} (h : t.isS = false) : t.erase = .node t.kind t.num t.name (erases t.kids) := by
  cases t with
  | node k n s ks =>
    have : ¬ (k = 4 ∧ ks.length = 1) := fun hh => by have := isS_iff.2 (show (Term.node k n s ks).kind = 4 ∧ _ from hh); rw [h] at this; cases this
    simp only [Term.erase, if_neg this]; rfl
end Go.Proofs.Ythpiggjclhnkcaa.AM
