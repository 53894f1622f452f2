/- Which of two terms is ahead. -/
import Derived.Test.YthpiggjclhnkcaaF3
namespace Go.Proofs.Ythpiggjclhnkcaa.AM
open Go
set_option linter.unusedVariables false
set_option linter.unusedSimpArgs false
def cmpI (a b : Int) : Int := if a < b then -1 else if b < a then 1 else 0
def cmpS (a b : ByteArray) : Int := if Op.bytesLess a.toList b.toList = true then -1 else if Op.bytesLess b.toList a.toList = true then 1 else 0
def orI : List Int → Int
  | [] => 0
  | x :: l => if x ≠ 0 then x else orI l
/-- What two terms' heads say. -/
def headC (a b : Term) : Int :=
  if a.kind = b.kind ∧ (a.kind = 1 ∨ a.kind = 2) then cmpI a.num b.num
  else if a.kind = b.kind ∧ a.kind = 3 then orI [cmpI a.kids.length b.kids.length, cmpS a.name b.name]
  else orI [cmpI a.kind b.kind, cmpI a.kids.length b.kids.length, cmpI a.num b.num, cmpS a.name b.name]
mutual
def Term.bare : Term → Term → Int
  | .node k n s ks, b => if headC (.node k n s ks) b ≠ 0 ∨ k = 1 ∨ k = 2 then headC (.node k n s ks) b else bares ks b.kids
def bares : List Term → List Term → Int
  | [], _ => 0
  | _ :: _, [] => 0
  | x :: xs, y :: ys => if x.bare y ≠ 0 then x.bare y else bares xs ys
end
def compareT (a b : Term) : Int := a.erase.bare b.erase
theorem bare_eq (a b : Term) : a.bare b = if headC a b ≠ 0 ∨ a.kind = 1 ∨ a.kind = 2 then headC a b else bares a.kids b.kids := by cases a; rfl
theorem cmpI_zero {a b : Int} : cmpI a b = 0 ↔ a = b := by unfold cmpI; split <;> (try split) <;> omega
theorem orI_cons {x : Int} {l : List Int} : orI (x :: l) = 0 ↔ x = 0 ∧ orI l = 0 := by
  rw [orI]
  by_cases h : x = 0
  · rw [if_neg (fun hh => hh h)]; exact ⟨fun e => ⟨h, e⟩, fun e => e.2⟩
  · rw [if_pos h]; exact ⟨fun e => absurd e h, fun e => e.1⟩
theorem headC_num {a b : Term} (h : a.kind = b.kind) (h1 : a.kind = 1 ∨ a.kind = 2) : headC a b = cmpI a.num b.num := by unfold headC; rw [if_pos ⟨h, h1⟩]
theorem headC_fun {a b : Term} (h : a.kind = b.kind) (h1 : a.kind = 3) : headC a b = orI [cmpI a.kids.length b.kids.length, cmpS a.name b.name] := by
  unfold headC; rw [if_neg (fun e => by rcases e.2 with e | e <;> omega), if_pos ⟨h, h1⟩]
theorem headC_other {a b : Term} (h : ¬ (a.kind = b.kind ∧ (a.kind = 1 ∨ a.kind = 2 ∨ a.kind = 3))) : headC a b = orI [cmpI a.kind b.kind, cmpI a.kids.length b.kids.length, cmpI a.num b.num, cmpS a.name b.name] := by
  unfold headC; rw [if_neg (fun e => h ⟨e.1, by rcases e.2 with e | e <;> omega⟩), if_neg (fun e => h ⟨e.1, .inr (.inr e.2)⟩)]
theorem head_len {a b : Term} (h : headC a b = 0) (h1 : ¬ (a.kind = 1 ∨ a.kind = 2)) : a.kids.length = b.kids.length := by
  unfold headC at h
  rw [if_neg (fun e => h1 e.2)] at h
  split at h
  · rw [orI_cons, cmpI_zero] at h; omega
  · rw [orI_cons, orI_cons, cmpI_zero] at h; rw [cmpI_zero] at h; omega
theorem less_cons (a b : UInt8) (x y : List UInt8) : Op.bytesLess (a :: x) (b :: y) = true ↔ a.toNat < b.toNat ∨ a = b ∧ Op.bytesLess x y = true := by
  simp only [Op.bytesLess, Bool.or_eq_true, decide_eq_true_eq, Bool.and_eq_true, beq_iff_eq, UInt8.lt_iff_toNat_lt]
theorem bytes_irr : ∀ x : List UInt8, ¬ Op.bytesLess x x = true
  | [], h => by cases h
  | a :: x, h => by rw [less_cons] at h; rcases h with h | h; omega; exact bytes_irr x h.2
theorem bytes_trans : ∀ x y z : List UInt8, Op.bytesLess x y = true → Op.bytesLess y z = true → Op.bytesLess x z = true
  | x, [], _, h, _ => by cases x <;> cases h
  | _, _ :: _, [], _, h => by cases h
  | [], _ :: _, _ :: _, _, _ => rfl
  | a :: x, b :: y, c :: z, h1, h2 => by
    rw [less_cons] at h1 h2 ⊢
    rcases h1 with h1 | ⟨rfl, h1⟩ <;> rcases h2 with h2 | ⟨rfl, h2⟩
    · exact .inl (by omega)
    · exact .inl h1
    · exact .inl h2
    · exact .inr ⟨rfl, bytes_trans x y z h1 h2⟩
theorem bytes_asym {x y : List UInt8} (h : Op.bytesLess x y = true) (h' : Op.bytesLess y x = true) : False := bytes_irr x (bytes_trans x y x h h')
theorem bytes_total : ∀ {x y : List UInt8}, Op.bytesLess x y = false → x ≠ y → Op.bytesLess y x = true
  | [], [], _, h => absurd rfl h
  | [], _ :: _, h, _ => by cases h
  | _ :: _, [], _, _ => rfl
  | a :: x, b :: y, h, hn => by
    rw [less_cons]
    have h' := mt (less_cons a b x y).2 (by rw [h]; exact Bool.false_ne_true)
    by_cases e : a = b
    · subst e
      refine .inr ⟨rfl, bytes_total (by rw [Bool.eq_false_iff]; exact fun hh => h' (.inr ⟨rfl, hh⟩)) fun e => hn (by rw [e])⟩
    · have : a.toNat ≠ b.toNat := fun ee => e (UInt8.toNat_inj.1 ee)
      exact .inl (by have := fun hh => h' (.inl hh); omega)
theorem gtS {a b : ByteArray} (ha : Op.bytesLess a.toList b.toList = false) (hb : (!(Op.bytesLess a.toList b.toList || a.toList == b.toList)) = true) : Op.bytesLess b.toList a.toList = true := by
  simp only [Bool.not_eq_true', Bool.or_eq_false_iff] at hb
  exact bytes_total ha (beq_eq_false_iff_ne.1 hb.2)
theorem leS {a b : ByteArray} (hb : (!(Op.bytesLess a.toList b.toList || a.toList == b.toList)) = false) : ¬ Op.bytesLess b.toList a.toList = true := by
  simp only [Bool.not_eq_false', Bool.or_eq_true, beq_iff_eq] at hb
  intro h
  rcases hb with hb | hb
  · exact bytes_asym hb h
  · rw [hb] at h; exact bytes_irr _ h
theorem bares_drop {l m : List Term} {i : Nat} (h : i < l.length) (h' : i < m.length) : bares (l.drop i) (m.drop i) = if l[i].bare m[i] ≠ 0 then l[i].bare m[i] else bares (l.drop (i + 1)) (m.drop (i + 1)) := by
  rw [drop_get h, drop_get h', bares]
theorem orI_drop {l : List Int} {i : Nat} (h : i < l.length) : orI (l.drop i) = if l[i] ≠ 0 then l[i] else orI (l.drop (i + 1)) := by
  rw [List.drop_eq_getElem_cons h, orI]
end Go.Proofs.Ythpiggjclhnkcaa.AM
