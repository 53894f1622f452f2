/- Plain facts about stores. -/
import Derived.Test.YtegfpnpghfcopaaS1
namespace Go.Proofs.Ytegfpnpghfcopaa.AM
open Go
set_option linter.unusedVariables false
set_option linter.unusedSimpArgs false
theorem inT_pos {s : St} {v : Int} {n : Nat} {t : Term} {l : List Int} {r : Bool × List Int} (h : inT s v n t l = some r) : ∃ m, n = m + 1 := by
  cases n with
  | zero => simp [inT] at h
  | succ m => exact ⟨m, rfl⟩
theorem inK_pos {s : St} {v : Int} {n : Nat} {ks : List Term} {l : List Int} {r : Bool × List Int} (h : inK s v n ks l = some r) : ∃ m, n = m + 1 := by
  cases n with
  | zero => simp [inK] at h
  | succ m => exact ⟨m, rfl⟩
theorem inK_cons {s : St} {v : Int} {m : Nat} {k : Term} {ks : List Term} {l l' : List Int} {b : Bool} (h : inK s v (m + 1) (k :: ks) l = some (b, l')) :
    ∃ b2 l2, inT s v m k l = some (b2, l2) ∧ ((b2 = true ∧ b = true ∧ l' = l2) ∨ (b2 = false ∧ inK s v m ks l2 = some (b, l'))) := by
  simp only [inK] at h
  cases hr : inT s v m k l with
  | none => rw [hr] at h; cases h
  | some r =>
    obtain ⟨b2, l2⟩ := r
    rw [hr] at h
    refine ⟨b2, l2, rfl, ?_⟩
    cases b2 with
    | true => simp only [Option.some.injEq, Prod.mk.injEq] at h; exact .inl ⟨rfl, h.1.symm, h.2.symm⟩
    | false => exact .inr ⟨rfl, h⟩
theorem inK_nil {s : St} {v : Int} {m : Nat} {l l' : List Int} {b : Bool} (h : inK s v (m + 1) [] l = some (b, l')) : b = false ∧ l' = l := by
  simp only [inK, Option.some.injEq, Prod.mk.injEq] at h; exact ⟨h.1.symm, h.2.symm⟩
theorem bound_i {s : St} {t : Term} (h1 : t.kind = 1) (h2 : 0 ≤ t.num) (h3 : t.num < (s.cs.length : Int)) : s.cs[t.num.toNat]? = some (s.look t) := by
  have h : t.num.toNat < s.cs.length := by omega
  simp [St.look, h1, h2, h]
theorem look_far {s : St} {t : Term} (h : ¬ t.num < (s.cs.length : Int)) : s.look t = none := by
  unfold St.look
  split
  · rw [List.getElem?_eq_none (by omega)]; rfl
  · rfl
theorem look_none_of {s : St} {t : Term} (h : (s.look t).isSome = false) : s.look t = none := by
  cases hq : s.look t with
  | none => rfl
  | some u => rw [hq] at h; cases h
theorem look_lt {s : St} {t u : Term} (h : s.look t = some u) : t.kind = 1 ∧ 0 ≤ t.num ∧ t.num < (s.cs.length : Int) ∧ s.cs[t.num.toNat]? = some (some u) := by
  obtain ⟨h1, h2, h3⟩ := look_some h
  have := (List.getElem?_eq_some_iff.1 h3).1
  exact ⟨h1, h2, by omega, h3⟩
theorem walk_stop {s : St} {t : Term} (h : s.look t = none) : ∀ n, s.walk n t = t
  | 0 => rfl
  | n + 1 => by simp only [St.walk, h]
theorem walk_nx {s : St} {t u : Term} (h : s.look t = some u) (n : Nat) : s.walk (n + 1) t = s.walk n u := by simp only [St.walk, h]
theorem cs_join {cs : List (Option Term)} {i : Nat} (h : i < cs.length) : cs[i]? = some ((cs[i]?).join) := by simp [h]
/-- All that is bound is of so much at most. -/
def St.small (s : St) (B : Nat) : Prop := ∀ (i : Nat) (u : Term), s.cs[i]? = some (some u) → u.bulk ≤ B
theorem walk_bulk {s : St} {B : Nat} (hs : s.small B) : ∀ (n : Nat) (t : Term), t.bulk ≤ B → (s.walk n t).bulk ≤ B
  | 0, t, h => h
  | n + 1, t, h => by
    cases hl : s.look t with
    | none => rw [walk_stop hl]; exact h
    | some u => rw [walk_nx hl]; exact walk_bulk hs n u (hs _ _ (look_some hl).2.2)
theorem wk_bulk {s : St} {B : Nat} (hs : s.small B) (t : Term) (h : t.bulk ≤ B) : (s.wk t).bulk ≤ B := walk_bulk hs _ t h

theorem toNat_lt {v : Int} {n : Nat} (h1 : 0 ≤ v) (h2 : v < (n : Int)) : v.toNat < n := by omega
theorem clears_len : ∀ (l : List Int) (cs : List (Option Term)), (clears l cs).length = cs.length
  | [], cs => rfl
  | v :: l, cs => by rw [clears, clears_len l]; simp
theorem clears_snoc : ∀ (l : List Int) (v : Int) (cs : List (Option Term)), clears (l ++ [v]) cs = (clears l cs).set v.toNat none
  | [], v, cs => rfl
  | u :: l, v, cs => by rw [List.cons_append, clears, clears, clears_snoc l v]
theorem clears_take {l : List Int} {i : Nat} {cs : List (Option Term)} (h : i < l.length) : clears (l.take (i + 1)) cs = (clears (l.take i) cs).set (l[i]).toNat none := by rw [List.take_succ_eq_append_getElem h, clears_snoc]
theorem cut_le (s : St) (m : Int) : s.cutAt m ≤ s.tr.length := by unfold St.cutAt; omega
theorem cut_eq (s : St) (m : Int) : (if (s.tr.length : Int) < (if 0 > m then 0 else m) then (s.tr.length : Int) else (if 0 > m then 0 else m)) = ((s.cutAt m : Nat) : Int) := by
  unfold St.cutAt
  split <;> split <;> omega
theorem drop_get' {α : Type} {l : List α} {i : Nat} (h : i < l.length) : l.drop i = l[i] :: l.drop (i + 1) := List.drop_eq_getElem_cons h

def fillK (W : Term → Term) (m : Nat) (ks : List Term) (l e : Int) : List Term × Int × Int :=
  ks.foldl (fun (x : List Term × Int × Int) k => let y := fillT W m k x.2.1 x.2.2; (x.1 ++ [y.1], y.2)) ([], l, e)
theorem fillT_seven {W : Term → Term} {m : Nat} {t : Term} {l e : Int} (he : e = 0) (hm : m = 0) : fillT W m t l e = (zeroT, IntKind.i64.wrap (l - 1), 7) := by
  subst he; subst hm; simp [fillT]
theorem fillT_three {W : Term → Term} {m : Nat} {t : Term} {l e : Int} (he : e = 0) (hm : m ≠ 0) (hl : IntKind.i64.wrap (l - 1) < 0) : fillT W m t l e = (zeroT, IntKind.i64.wrap (l - 1), 3) := by
  subst he
  cases m with
  | zero => exact absurd rfl hm
  | succ m => simp [fillT, hl]
theorem fillT_old {W : Term → Term} {m : Nat} {t : Term} {l e : Int} (he : e ≠ 0) : fillT W m t l e = (zeroT, IntKind.i64.wrap (l - 1), e) := by
  cases m <;> simp [fillT, he]
theorem fillT_ok {W : Term → Term} {m : Nat} {t : Term} {l : Int} (hl : ¬ IntKind.i64.wrap (l - 1) < 0) : fillT W (m + 1) t l 0 = (.node (W t).kind (W t).num (W t).name (fillK W m (W t).kids (IntKind.i64.wrap (l - 1)) 0).1, (fillK W m (W t).kids (IntKind.i64.wrap (l - 1)) 0).2) := by
  simp [fillT, hl, fillK]
theorem fillK_snoc (W : Term → Term) (m : Nat) (ks : List Term) (k : Term) (l e : Int) : fillK W m (ks ++ [k]) l e = ((fillK W m ks l e).1 ++ [(fillT W m k (fillK W m ks l e).2.1 (fillK W m ks l e).2.2).1], (fillT W m k (fillK W m ks l e).2.1 (fillK W m ks l e).2.2).2) := by
  simp [fillK, List.foldl_append]
theorem fillK_take (W : Term → Term) (m : Nat) {ks : List Term} {i : Nat} (h : i < ks.length) (l e : Int) : fillK W m (ks.take (i + 1)) l e = ((fillK W m (ks.take i) l e).1 ++ [(fillT W m ks[i] (fillK W m (ks.take i) l e).2.1 (fillK W m (ks.take i) l e).2.2).1], (fillT W m ks[i] (fillK W m (ks.take i) l e).2.1 (fillK W m (ks.take i) l e).2.2).2) := by
  rw [List.take_succ_eq_append_getElem h, fillK_snoc]
theorem fillK_len (W : Term → Term) (m : Nat) (l e : Int) : ∀ (ks : List Term), (fillK W m ks l e).1.length = ks.length := by
  intro ks
  rw [← List.reverse_reverse ks]
  induction ks.reverse with
  | nil => rfl
  | cons k ks ih => rw [List.reverse_cons, fillK_snoc, List.length_append, ih]; simp
theorem binD_add {a b r : Int} (h : IntKind.i64.wrap (a + b) = r) : binD .add (.int .i64 a) (.int .i64 b) = some (.int .i64 r) := by simp [binD, h]
theorem binD_sub {a b r : Int} (h : IntKind.i64.wrap (a - b) = r) : binD .sub (.int .i64 a) (.int .i64 b) = some (.int .i64 r) := by simp [binD, h]
end Go.Proofs.Ytegfpnpghfcopaa.AM
