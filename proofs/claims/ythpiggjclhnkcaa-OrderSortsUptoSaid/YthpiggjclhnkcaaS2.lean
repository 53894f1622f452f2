/- Stores: what they hold, what they compute. -/
import Derived.Test.YthpiggjclhnkcaaBE
namespace Go.Proofs.Ythpiggjclhnkcaa.AM
open Go
set_option linter.unusedVariables false
set_option linter.unusedSimpArgs false

structure St where
  cs : List (Option Term)
  tr : List Int
  v1 : Nat := 0
  v2 : Nat := 0

def encCell : Option Term → D
  | none => .agg [.bool false, .int .i64 0, .int .i64 0, .str ⟨#[]⟩, .list []]
  | some t => .agg (.bool true :: dcells t)
def encCells (l : List (Option Term)) : List D := l.map encCell
/-- A store's objects: its cells, its trail, itself. -/
def stO (eC eI : Nat) (s : St) : List AObj := [.buf eC 5 (encCells s.cs) s.v1, .buf eI 1 (ints s.tr) s.v2, .cells [.own 0 s.v1, .own 1 s.v2]]

/-- What a bound variable is bound to. -/
def St.look (s : St) (t : Term) : Option Term := if t.kind = 1 ∧ 0 ≤ t.num then (s.cs[t.num.toNat]?).join else none
def St.walk (s : St) : Nat → Term → Term
  | 0, t => t
  | n + 1, t => match s.look t with
    | none => t
    | some u => s.walk n u
def St.wk (s : St) (t : Term) : Term := s.walk (s.cs.length + 1) t
mutual
def inT (s : St) (v : Int) : Nat → Term → List Int → Option (Bool × List Int)
  | 0, _, _ => none
  | n + 1, t, seen => match s.look t with
    | some u => if t.num ∈ seen then some (false, seen) else inT s v n u (seen ++ [t.num])
    | none => if t.kind = 1 then some (t.num == v, seen) else if t.kind = 4 then some (false, seen) else inK s v n t.kids seen
def inK (s : St) (v : Int) : Nat → List Term → List Int → Option (Bool × List Int)
  | 0, _, _ => none
  | n + 1, [], seen => some (false, seen)
  | n + 1, k :: ks, seen => match inT s v n k seen with
    | some (false, seen') => inK s v n ks seen'
    | r => r
end
/-- How much there is to be looked at in what was not seen. -/
def potL (seen : List Int) : List (Option Term) → Nat → Nat
  | [], _ => 0
  | c :: cs, i => (match c with | some t => if (i : Int) ∈ seen then 0 else 2 * t.size + 2 | none => 0) + potL seen cs (i + 1)
def St.pot (s : St) (seen : List Int) : Nat := potL seen s.cs 0
def St.has (s : St) (v : Int) (t : Term) : Bool := match inT s v (2 * t.size + s.pot []) t [] with
  | some (b, _) => b
  | none => false

theorem potL_mono {a b : List Int} (h : ∀ x ∈ a, x ∈ b) : ∀ (cs : List (Option Term)) (i : Nat), potL b cs i ≤ potL a cs i
  | [], i => Nat.le_refl _
  | c :: cs, i => by
    have := potL_mono h cs (i + 1)
    simp only [potL]
    cases c with
    | none => simpa using this
    | some t =>
      simp only
      by_cases hb : (i : Int) ∈ b
      · rw [if_pos hb]; omega
      · rw [if_neg hb, if_neg (fun ha => hb (h _ ha))]; omega
theorem potL_add (a : List Int) : ∀ (cs : List (Option Term)) (i j : Nat) (u : Term), cs[j]? = some (some u) → ((i + j : Nat) : Int) ∉ a → potL (a ++ [((i + j : Nat) : Int)]) cs i + (2 * u.size + 2) ≤ potL a cs i
  | [], i, j, u, h, _ => by simp at h
  | c :: cs, i, 0, u, h, hn => by
    simp only [List.getElem?_cons_zero, Option.some.injEq] at h
    subst h
    have := potL_mono (a := a) (b := a ++ [((i + 0 : Nat) : Int)]) (fun x hx => List.mem_append_left _ hx) cs (i + 1)
    simp only [Nat.add_zero] at hn this ⊢
    simp only [potL]
    rw [if_pos (by simp), if_neg hn]
    omega
  | c :: cs, i, j + 1, u, h, hn => by
    have e : i + (j + 1) = (i + 1) + j := by omega
    rw [e] at hn ⊢
    have := potL_add a cs (i + 1) j u (by simpa using h) hn
    simp only [potL]
    cases c with
    | none => simpa using this
    | some t =>
      simp only
      by_cases hi : (i : Int) ∈ a
      · rw [if_pos (List.mem_append_left _ hi), if_pos hi]; omega
      · rw [if_neg hi, if_neg (by
          intro hh
          rcases List.mem_append.1 hh with hh | hh
          · exact hi hh
          · simp at hh; omega)]
        omega
theorem look_some {s : St} {t u : Term} (h : s.look t = some u) : t.kind = 1 ∧ 0 ≤ t.num ∧ s.cs[t.num.toNat]? = some (some u) := by
  unfold St.look at h
  split at h
  · rename_i hc
    refine ⟨hc.1, hc.2, ?_⟩
    cases hq : s.cs[t.num.toNat]? with
    | none => rw [hq] at h; cases h
    | some c => rw [hq] at h; simp only [Option.join_some] at h; rw [h]
  · cases h
theorem in_total (s : St) (v : Int) : ∀ n, (∀ (t : Term) (seen : List Int), 2 * t.size + s.pot seen ≤ n → ∃ b seen', inT s v n t seen = some (b, seen') ∧ s.pot seen' ≤ s.pot seen) ∧
    (∀ (ks : List Term) (seen : List Int), 2 * sizes ks + 1 + s.pot seen ≤ n → ∃ b seen', inK s v n ks seen = some (b, seen') ∧ s.pot seen' ≤ s.pot seen) := by
  intro n
  induction n with
  | zero =>
    refine ⟨fun t seen h => ?_, fun ks seen h => by omega⟩
    have := t.size_kids; omega
  | succ n ih =>
    constructor
    · intro t seen h
      simp only [inT]
      cases hl : s.look t with
      | some u =>
        simp only
        by_cases hs : t.num ∈ seen
        · rw [if_pos hs]; exact ⟨_, _, rfl, Nat.le_refl _⟩
        · rw [if_neg hs]
          obtain ⟨h1, h2, h3⟩ := look_some hl
          have hp := potL_add seen s.cs 0 t.num.toNat u h3 (by simpa [Int.toNat_of_nonneg h2] using hs)
          simp only [Nat.zero_add, Int.toNat_of_nonneg h2] at hp
          have hp' : s.pot (seen ++ [t.num]) + (2 * u.size + 2) ≤ s.pot seen := hp
          have := t.size_kids
          obtain ⟨b, seen', e1, e2⟩ := ih.1 u (seen ++ [t.num]) (by omega)
          exact ⟨b, seen', e1, by omega⟩
      | none =>
        simp only
        by_cases k1 : t.kind = 1
        · rw [if_pos k1]; exact ⟨_, _, rfl, Nat.le_refl _⟩
        · rw [if_neg k1]
          by_cases k4 : t.kind = 4
          · rw [if_pos k4]; exact ⟨_, _, rfl, Nat.le_refl _⟩
          · rw [if_neg k4]
            have := t.size_kids
            exact ih.2 t.kids seen (by omega)
    · intro ks seen h
      cases ks with
      | nil => exact ⟨false, seen, rfl, Nat.le_refl _⟩
      | cons k ks =>
        simp only [sizes] at h
        obtain ⟨b, seen', e1, e2⟩ := ih.1 k seen (by omega)
        simp only [inK, e1]
        cases b with
        | true => exact ⟨_, _, rfl, e2⟩
        | false =>
          have := k.size_kids
          obtain ⟨b', seen2, e3, e4⟩ := ih.2 ks seen' (by omega)
          exact ⟨b', seen2, e3, by omega⟩
theorem has_in (s : St) (v : Int) (t : Term) : ∃ seen, inT s v (2 * t.size + s.pot []) t [] = some (s.has v t, seen) := by
  obtain ⟨b, seen, h, _⟩ := (in_total s v _).1 t [] (Nat.le_refl _)
  exact ⟨seen, by simp only [St.has, h]⟩

/-! What is done to a store. -/
def St.fresh (s : St) (n : Int) : St × Int × Int :=
  if n < 0 then (s, 0, 1) else if n > 4096 - (s.cs.length : Int) then (s, 0, 3) else ({ s with cs := s.cs ++ List.replicate n.toNat none, v1 := s.v1 + 1 }, s.cs.length, 0)
def St.bind (s : St) (v : Int) (t : Term) : St × Int :=
  if v < 0 ∨ (s.cs.length : Int) ≤ v then (s, 5) else if ((s.cs[v.toNat]?).join).isSome then (s, 6) else if s.has v t then (s, 4) else ({ s with cs := s.cs.set v.toNat (some t), tr := s.tr ++ [v], v2 := s.v2 + 1 }, 0)
def clears : List Int → List (Option Term) → List (Option Term)
  | [], cs => cs
  | v :: l, cs => clears l (cs.set v.toNat none)
def St.cutAt (s : St) (m : Int) : Nat := (min (max m 0) (s.tr.length : Int)).toNat
def St.undo (s : St) (m : Int) : St := { s with cs := clears (s.tr.drop (s.cutAt m)) s.cs, tr := s.tr.take (s.cutAt m), v2 := s.v2 + 1 }
def zeroT : Term := .node 0 0 ⟨#[]⟩ []
/-- A term filled: m parts deeper at most. -/
def fillT (W : Term → Term) : Nat → Term → Int → Int → Term × Int × Int
  | m, t, l, e =>
    let t := W t
    let e := if e = 0 ∧ m = 0 then 7 else e
    let l := IntKind.i64.wrap (l - 1)
    let e := if e = 0 ∧ l < 0 then 3 else e
    if e = 0 then match m with
      | 0 => (zeroT, l, e)
      | m + 1 =>
        let r := t.kids.foldl (fun (x : List Term × Int × Int) k => let y := fillT W m k x.2.1 x.2.2; (x.1 ++ [y.1], y.2)) ([], l, e)
        (.node t.kind t.num t.name r.1, r.2)
    else (zeroT, l, e)
def St.full (s : St) (t : Term) : Term × Int :=
  let x := fillT s.wk 60 t 1000 0
  if x.2.2 = 0 then (x.1, 0) else (zeroT, x.2.2)
end Go.Proofs.Ythpiggjclhnkcaa.AM

/- The rules for stores' cells, for sets of numbers, for pointers to objects against nil. -/
namespace Go.Proofs.Ythpiggjclhnkcaa.AM
open Go
set_option linter.unusedVariables false
set_option linter.unusedSimpArgs false
def mseen (l : List Int) : List (D × D) := mints .i64 (l.map fun n => (n, .bool true))
section
variable {P : Program} {ro : Option Nat} {N : Nat} {K : Org} {T : Nat → AV} {O : List AObj} {dst : Option Tmp} {ty : TypeId} {pos : String} {af : Array Edge} {g : Option (Nat × Bool)}

theorem opv_slice_osl1 {x lo : Operand} {t e sz id ver : Nat} {k : IntKind} {l : Nat} {xs : List D} [S : Slc P t e sz] (hx : evT T x = .own id ver) (hO : O[id]? = some (.buf e sz xs ver)) (hlo : evT T lo = .d (.int k (l : Nat))) (hl : l ≤ xs.length) :
    OpV P ro ⟨dst, .slice t x (some lo) none none, ty, pos, af, g⟩ T O (.osl id ver l (xs.length - l)) O := opv_slice_osl hx hO ⟨k, hlo⟩ rfl hl (Nat.le_refl _)

theorem EndQ.tmps2 {fn : Func} {Q : AV → List AObj → Prop} {O' : List AObj} {e : Exit} {a s : Tmp} {v v' : AV} (he : e = .normal ∨ e = .ret) (hr : fn.results.toList = [.tmp a, .tmp s]) (ha : T a = v) (hs : T s = v') (n : Nat) (h1 : O.length ≤ n) (h2 : n ≤ O'.length) (hb : AV.bds n [v, v']) (hq : Q (.tup [v, v']) (O'.take n)) : EndQ P fn O Q e T O' :=
  ⟨he, [v, v'], n, by rw [hr]; exact .cons ha (.cons hs .nil), h1, h2, hb, hq⟩
end
end Go.Proofs.Ythpiggjclhnkcaa.AM

/- Plain facts about stores. -/
namespace Go.Proofs.Ythpiggjclhnkcaa.AM
open Go
set_option linter.unusedVariables false
set_option linter.unusedSimpArgs false
theorem inK_cons {s : St} {v : Int} {m : Nat} {k : Term} {ks : List Term} {l l' : List Int} {b : Bool} (h : inK s v (m + 1) (k :: ks) l = some (b, l')) :
    ∃ b2 l2, inT s v m k l = some (b2, l2) ∧ ((b2 = true ∧ b = true ∧ l' = l2) ∨ (b2 = false ∧ inK s v m ks l2 = some (b, l'))) := by
  simp only [inK] at h
  cases hr : inT s v m k l with
  | none => rw [hr] at h; cases h
  | some r =>
    obtain ⟨b2, l2⟩ := r
    rw [hr] at h
    refine ⟨b2, l2, rfl, ?_⟩
    cases b2 with
    | true => simp only [Option.some.injEq, Prod.mk.injEq] at h; exact .inl ⟨rfl, h.1.symm, h.2.symm⟩
    | false => exact .inr ⟨rfl, h⟩
theorem inK_nil {s : St} {v : Int} {m : Nat} {l l' : List Int} {b : Bool} (h : inK s v (m + 1) [] l = some (b, l')) : b = false ∧ l' = l := by
  simp only [inK, Option.some.injEq, Prod.mk.injEq] at h; exact ⟨h.1.symm, h.2.symm⟩
theorem look_lt {s : St} {t u : Term} (h : s.look t = some u) : t.kind = 1 ∧ 0 ≤ t.num ∧ t.num < (s.cs.length : Int) ∧ s.cs[t.num.toNat]? = some (some u) := by
  obtain ⟨h1, h2, h3⟩ := look_some h
  have := (List.getElem?_eq_some_iff.1 h3).1
  exact ⟨h1, h2, by omega, h3⟩
theorem walk_stop {s : St} {t : Term} (h : s.look t = none) : ∀ n, s.walk n t = t
  | 0 => rfl
  | n + 1 => by simp only [St.walk, h]
theorem walk_nx {s : St} {t u : Term} (h : s.look t = some u) (n : Nat) : s.walk (n + 1) t = s.walk n u := by simp only [St.walk, h]
/-- All that is bound is of so much at most. -/
def St.small (s : St) (B : Nat) : Prop := ∀ (i : Nat) (u : Term), s.cs[i]? = some (some u) → u.bulk ≤ B
theorem clears_snoc : ∀ (l : List Int) (v : Int) (cs : List (Option Term)), clears (l ++ [v]) cs = (clears l cs).set v.toNat none
  | [], v, cs => rfl
  | u :: l, v, cs => by rw [List.cons_append, clears, clears, clears_snoc l v]
def fillK (W : Term → Term) (m : Nat) (ks : List Term) (l e : Int) : List Term × Int × Int :=
  ks.foldl (fun (x : List Term × Int × Int) k => let y := fillT W m k x.2.1 x.2.2; (x.1 ++ [y.1], y.2)) ([], l, e)
end Go.Proofs.Ythpiggjclhnkcaa.AM
