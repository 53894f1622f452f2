/- Terms with other numbers of variables; what is normal. -/
import Derived.Test.YtohncglpjiplaaaS6
namespace Go.Proofs.Ytohncglpjiplaaa.AM
open Go
set_option linter.unusedVariables false
set_option linter.unusedSimpArgs false
/-- Where a number stands; of none 0. -/
def placeOf : List Int → Int → Nat → Int
  | [], _, _ => 0
  | v :: l, n, i => if n = v then (i : Int) else placeOf l n (i + 1)
def mplace : List Int → Nat → List (Int × D)
  | [], _ => []
  | v :: l, i => (v, .int .i64 (i : Nat)) :: mplace l (i + 1)
theorem mplace_len : ∀ (l : List Int) (i : Nat), (mplace l i).length = l.length
  | [], _ => rfl
  | v :: l, i => by simp [mplace, mplace_len l]
theorem mfind_place (n : Int) : ∀ (l : List Int) (i : Nat), (mfind (mplace l i) n).getD (.int .i64 0) = .int .i64 (placeOf l n i)
  | [], i => rfl
  | v :: l, i => by
    simp only [mplace, mfind, placeOf]
    by_cases h : n = v
    · simp [h]
    · simp only [h, if_false]; exact mfind_place n l (i + 1)
theorem mfind_not {n : Int} : ∀ {l : List Int} {i : Nat}, n ∉ l → mfind (mplace l i) n = none
  | [], i, _ => rfl
  | v :: l, i, h => by
    simp only [List.mem_cons, not_or] at h
    simp only [mplace, mfind, h.1, if_false]
    exact mfind_not h.2
theorem mplace_snoc : ∀ (l : List Int) (v : Int) (i : Nat), mplace (l ++ [v]) i = mplace l i ++ [(v, .int .i64 ((i + l.length : Nat) : Int))]
  | [], v, i => by simp [mplace]
  | u :: l, v, i => by
    simp only [List.cons_append, mplace, mplace_snoc l v (i + 1), List.length_cons]
    rw [show i + 1 + l.length = i + (l.length + 1) by omega]
theorem mset_place {l : List Int} {i : Nat} (h : i < l.length) (hn : l.Nodup) : mset (mplace (l.take i) 0) l[i] (.int .i64 (i : Nat)) = mplace (l.take (i + 1)) 0 := by
  have hni : l[i] ∉ l.take i := nodup_take hn h
  rw [mset_none _ _ _ (mfind_not hni), List.take_succ_eq_append_getElem h, mplace_snoc]
  simp [Nat.min_eq_left (Nat.le_of_lt h)]

mutual
def Term.put (f : Int → Int) : Term → Term
  | .node k n s ks => .node k (if k = 1 then f n else n) s (puts f ks)
def puts (f : Int → Int) : List Term → List Term
  | [] => []
  | t :: ts => t.put f :: puts f ts
end
theorem put_eq (f : Int → Int) (t : Term) : t.put f = .node t.kind (if t.kind = 1 then f t.num else t.num) t.name (puts f t.kids) := by cases t; rfl
theorem puts_map (f : Int → Int) : ∀ l, puts f l = l.map (Term.put f)
  | [] => rfl
  | t :: l => by rw [puts, puts_map f l]; rfl
theorem puts_len (f : Int → Int) (l : List Term) : (puts f l).length = l.length := by rw [puts_map, List.length_map]
theorem puts_take {f : Int → Int} {l : List Term} {i : Nat} (h : i < l.length) : puts f (l.take (i + 1)) = puts f (l.take i) ++ [l[i].put f] := by
  rw [puts_map, puts_map, List.take_succ_eq_append_getElem h, List.map_append]; rfl
mutual
theorem put_bulk (f : Int → Int) : ∀ t : Term, (t.put f).bulk = t.bulk
  | .node k n s ks => by rw [Term.put, Term.bulk, Term.bulk, puts_bulk f ks]
theorem puts_bulk (f : Int → Int) : ∀ l : List Term, bulks (puts f l) = bulks l
  | [] => rfl
  | t :: l => by rw [puts, bulks, bulks, put_bulk f t, puts_bulk f l]
end
/-- Told apart as they were. -/
def InjOn (f : Int → Int) (l : List Int) : Prop := ∀ x ∈ l, ∀ y ∈ l, f x = f y → x = y
def ups (n : Nat) : List Int := (List.range n).map Int.ofNat
/-! What is normal. -/
def Term.norm (t : Term) : Term := t.put (fun n => placeOf t.vars n 0)
theorem norm_bulk (t : Term) : t.norm.bulk = t.bulk := put_bulk _ t
section
variable {P : Program} {ro : Option Nat} {T : Nat → AV} {O : List AObj} {dst : Option Tmp} {ty : TypeId} {pos : String} {af : Array Edge} {g : Option (Nat × Bool)}
theorem opv_lookup_place {x ix : Operand} {t e id : Nat} {n : Int} {vs : List Int} [S : Mp P t .i64 e] [Z : Zv P e (.int .i64 0)] (hx : evT T x = .mp id) (hO : O[id]? = some (.mapo (mints .i64 (mplace vs 0)))) (hi : evT T ix = .d (.int .i64 n)) :
    OpV P ro ⟨dst, .lookup t x ix false, ty, pos, af, g⟩ T O (.d (.int .i64 (placeOf vs n 0))) O := by
  have := opv_lookup (P := P) (ro := ro) (dst := dst) (ty := ty) (pos := pos) (af := af) (g := g) (t := t) hx hO hi
  rwa [mfind_place] at this
theorem opv_update_place {m x ix : Operand} {t e id i : Nat} {vs : List Int} [S : Mp P t .i64 e] (hm : evT T m = .mp id) (hO : O[id]? = some (.mapo (mints .i64 (mplace (vs.take i) 0)))) (h : i < vs.length) (hi : evT T ix = .d (.int .i64 vs[i])) (hx : evT T x = .d (.int .i64 (i : Nat))) (hn : vs.Nodup) :
    OpV P ro ⟨dst, .mapUpdate t m ix x, ty, pos, af, g⟩ T O .unk (O.set id (.mapo (mints .i64 (mplace (vs.take (i + 1)) 0)))) := by
  have := opv_mapUpdate (P := P) (ro := ro) (dst := dst) (ty := ty) (pos := pos) (af := af) (g := g) (t := t) hm hO hi hx rfl
  rwa [mset_place h hn] at this
theorem opv_len_place {x : Operand} {t e id : Nat} {vs : List Int} [S : Mp P t .i64 e] (hx : evT T x = .mp id) (hO : O[id]? = some (.mapo (mints .i64 (mplace vs 0)))) :
    OpV P ro ⟨dst, .call { callee := .builtin .len, args := #[x], argTypes := #[t] }, ty, pos, af, g⟩ T O (.d (.int .i64 vs.length)) O := by
  have := opv_len_map (P := P) (ro := ro) (dst := dst) (ty := ty) (pos := pos) (af := af) (g := g) (O := O) (t := t) hx hO
  rwa [mplace_len] at this
end
/-! A term with new variables; a copy. -/
def cfreshT (s : St) (t : Term) (n : Int) : Term × Int := if (s.fresh n).2.2 = 0 then (t.shift (s.fresh n).2.1, 0) else (zeroT, (s.fresh n).2.2)
def copyT (s : St) (t : Term) : Term × Int := if (s.full t).2 = 0 then cfreshT s (s.full t).1.norm ((s.full t).1.vars.length : Nat) else (zeroT, (s.full t).2)
def copyS (s : St) (t : Term) : St := if (s.full t).2 = 0 then (s.fresh ((s.full t).1.vars.length : Nat)).1 else s
end Go.Proofs.Ytohncglpjiplaaa.AM
