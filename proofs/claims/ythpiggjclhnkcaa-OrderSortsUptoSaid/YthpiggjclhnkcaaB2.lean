/- Terms. -/
import Derived.Test.YthpiggjclhnkcaaB1
namespace Go.Proofs.Ythpiggjclhnkcaa.AM
open Go
set_option linter.unusedVariables false
set_option linter.unusedSimpArgs false

inductive Term where
  | node (k n : Int) (s : ByteArray) (kids : List Term)

mutual
def enc : Term → D
  | .node k n s ks => .agg [.int .i64 k, .int .i64 n, .str s, .list (encs ks)]
def encs : List Term → List D
  | [] => []
  | t :: ts => enc t :: encs ts
end
theorem encs_map : ∀ l, encs l = l.map enc
  | [] => rfl
  | t :: l => by rw [encs, encs_map l]; rfl
theorem encs_len (l : List Term) : (encs l).length = l.length := by rw [encs_map, List.length_map]
theorem encs_get (l : List Term) (i : Nat) : (encs l)[i]? = (l[i]?).map enc := by rw [encs_map, List.getElem?_map]
theorem enc_cells (t : Term) : (enc t).cells.length = 4 := by cases t; rfl
mutual
/-- How much it takes, its parts and its texts, all of them. -/
def Term.bulk : Term → Nat
  | .node _ _ s ks => s.size + bulks ks + 1
def bulks : List Term → Nat
  | [] => 0
  | t :: ts => t.bulk + bulks ts
end
mutual
def Term.size : Term → Nat
  | .node _ _ _ ks => sizes ks + 1
def sizes : List Term → Nat
  | [] => 0
  | t :: ts => t.size + sizes ts
end
mutual
def Term.deep : Term → Nat
  | .node _ _ _ ks => 1 + deeps ks
def deeps : List Term → Nat
  | [] => 0
  | t :: ts => max t.deep (deeps ts)
end
def Term.kids : Term → List Term | .node _ _ _ ks => ks
def Term.name : Term → ByteArray | .node _ _ s _ => s
def Term.kind : Term → Int | .node k _ _ _ => k
def Term.num : Term → Int | .node _ n _ _ => n

theorem bulks_mem {t : Term} {l : List Term} (h : t ∈ l) : t.bulk ≤ bulks l := by
  induction l with
  | nil => cases h
  | cons x l ih =>
    simp only [bulks]
    rcases List.mem_cons.1 h with rfl | h
    · omega
    · have := ih h; omega
theorem sizes_mem {t : Term} {l : List Term} (h : t ∈ l) : t.size ≤ sizes l := by
  induction l with
  | nil => cases h
  | cons x l ih =>
    simp only [sizes]
    rcases List.mem_cons.1 h with rfl | h
    · omega
    · have := ih h; omega
theorem bulks_len : ∀ (l : List Term), l.length ≤ bulks l
  | [] => Nat.le_refl _
  | .node k n s ks :: l => by have := bulks_len l; simp only [bulks, Term.bulk, List.length_cons]; omega
mutual
theorem Term.deep_size : ∀ t : Term, t.deep ≤ t.size
  | .node k n s ks => by have := deeps_sizes ks; simp only [Term.deep, Term.size]; omega
theorem deeps_sizes : ∀ l : List Term, deeps l ≤ sizes l
  | [] => Nat.le_refl _
  | t :: l => by have := Term.deep_size t; have := deeps_sizes l; simp only [deeps, sizes]; omega
end
mutual
theorem Term.size_bulk : ∀ t : Term, t.size ≤ t.bulk
  | .node k n s ks => by have := sizes_bulks ks; simp only [Term.bulk, Term.size]; omega
theorem sizes_bulks : ∀ l : List Term, sizes l ≤ bulks l
  | [] => Nat.le_refl _
  | t :: l => by have := Term.size_bulk t; have := sizes_bulks l; simp only [bulks, sizes]; omega
end
theorem deeps_take : ∀ (l : List Term) (i : Nat) (t : Term), l[i]? = some t → deeps (l.take (i + 1)) = max (deeps (l.take i)) t.deep
  | [], i, t, h => by simp at h
  | x :: l, 0, t, h => by simp at h; subst h; simp [deeps]
  | x :: l, i + 1, t, h => by
    simp only [List.take_succ_cons, deeps]
    rw [deeps_take l i t (by simpa using h)]; omega
theorem sizes_take : ∀ (l : List Term) (i : Nat) (t : Term), l[i]? = some t → sizes (l.take (i + 1)) = sizes (l.take i) + t.size
  | [], i, t, h => by simp at h
  | x :: l, 0, t, h => by simp at h; subst h; simp [sizes]
  | x :: l, i + 1, t, h => by
    simp only [List.take_succ_cons, sizes]
    rw [sizes_take l i t (by simpa using h)]; omega
theorem sizes_take_le : ∀ (l : List Term) (i : Nat), sizes (l.take i) ≤ sizes l
  | [], i => by simp
  | x :: l, 0 => by simp [sizes]
  | x :: l, i + 1 => by simp only [List.take_succ_cons, sizes]; have := sizes_take_le l i; omega
theorem wrap64 {x : Int} (h1 : -9223372036854775808 ≤ x) (h2 : x ≤ 9223372036854775807) : IntKind.i64.wrap x = x := by
  simp only [IntKind.wrap, IntKind.bits, IntKind.signed, Bool.true_and, decide_eq_true_eq, show (2 : Int) ^ 64 = 18446744073709551616 from rfl, show (2 : Int) ^ (64 - 1) = 9223372036854775808 from rfl]
  split <;> omega
end Go.Proofs.Ythpiggjclhnkcaa.AM
