/- Terms with other numbers of variables; what is normal. -/
import Derived.Test.YtmokkjmoneablaaS6
namespace Go.Proofs.Ytmokkjmoneablaa.AM
open Go
set_option linter.unusedVariables false
set_option linter.unusedSimpArgs false
/-- Where a number stands; of none 0. -/
def placeOf : List Int → Int → Nat → Int
  | [], _, _ => 0
  | v :: l, n, i => if n = v then (i : Int) else placeOf l n (i + 1)
def mplace : List Int → Nat → List (Int × D)
  | [], _ => []
  | v :: l, i => (v, .int .i64 (i : Nat)) :: mplace l (i + 1)
theorem mplace_len : ∀ (l : List Int) (i : Nat), (mplace l i).length = l.length
  | [], _ => rfl
  | v :: l, i => by simp [mplace, mplace_len l]
theorem mfind_place (n : Int) : ∀ (l : List Int) (i : Nat), (mfind (mplace l i) n).getD (.int .i64 0) = .int .i64 (placeOf l n i)
  | [], i => rfl
  | v :: l, i => by
    simp only [mplace, mfind, placeOf]
    by_cases h : n = v
    · simp [h]
    · simp only [h, if_false]; exact mfind_place n l (i + 1)
theorem mfind_not {n : Int} : ∀ {l : List Int} {i : Nat}, n ∉ l → mfind (mplace l i) n = none
  | [], i, _ => rfl
  | v :: l, i, h => by
    simp only [List.mem_cons, not_or] at h
    simp only [mplace, mfind, h.1, if_false]
    exact mfind_not h.2
theorem mplace_snoc : ∀ (l : List Int) (v : Int) (i : Nat), mplace (l ++ [v]) i = mplace l i ++ [(v, .int .i64 ((i + l.length : Nat) : Int))]
  | [], v, i => by simp [mplace]
  | u :: l, v, i => by
    simp only [List.cons_append, mplace, mplace_snoc l v (i + 1), List.length_cons]
    rw [show i + 1 + l.length = i + (l.length + 1) by omega]
theorem mset_place {l : List Int} {i : Nat} (h : i < l.length) (hn : l.Nodup) : mset (mplace (l.take i) 0) l[i] (.int .i64 (i : Nat)) = mplace (l.take (i + 1)) 0 := by
  have hni : l[i] ∉ l.take i := nodup_take hn h
  rw [mset_none _ _ _ (mfind_not hni), List.take_succ_eq_append_getElem h, mplace_snoc]
  simp [Nat.min_eq_left (Nat.le_of_lt h)]

mutual
def Term.put (f : Int → Int) : Term → Term
  | .node k n s ks => .node k (if k = 1 then f n else n) s (puts f ks)
def puts (f : Int → Int) : List Term → List Term
  | [] => []
  | t :: ts => t.put f :: puts f ts
end
theorem put_eq (f : Int → Int) (t : Term) : t.put f = .node t.kind (if t.kind = 1 then f t.num else t.num) t.name (puts f t.kids) := by cases t; rfl
theorem puts_map (f : Int → Int) : ∀ l, puts f l = l.map (Term.put f)
  | [] => rfl
  | t :: l => by rw [puts, puts_map f l]; rfl
theorem puts_len (f : Int → Int) (l : List Term) : (puts f l).length = l.length := by rw [puts_map, List.length_map]
theorem puts_take {f : Int → Int} {l : List Term} {i : Nat} (h : i < l.length) : puts f (l.take (i + 1)) = puts f (l.take i) ++ [l[i].put f] := by
  rw [puts_map, puts_map, List.take_succ_eq_append_getElem h, List.map_append]; rfl
mutual
theorem tput_size (f : Int → Int) : ∀ t : Term, (t.put f).size = t.size
  | .node k n s ks => by rw [Term.put, Term.size, Term.size, puts_size f ks]
theorem puts_size (f : Int → Int) : ∀ l : List Term, sizes (puts f l) = sizes l
  | [] => rfl
  | t :: l => by rw [puts, sizes, sizes, tput_size f t, puts_size f l]
end
mutual
theorem put_deep (f : Int → Int) : ∀ t : Term, (t.put f).deep = t.deep
  | .node k n s ks => by rw [Term.put, Term.deep, Term.deep, puts_deep f ks]
theorem puts_deep (f : Int → Int) : ∀ l : List Term, deeps (puts f l) = deeps l
  | [] => rfl
  | t :: l => by rw [puts, deeps, deeps, put_deep f t, puts_deep f l]
end
mutual
theorem put_bulk (f : Int → Int) : ∀ t : Term, (t.put f).bulk = t.bulk
  | .node k n s ks => by rw [Term.put, Term.bulk, Term.bulk, puts_bulk f ks]
theorem puts_bulk (f : Int → Int) : ∀ l : List Term, bulks (puts f l) = bulks l
  | [] => rfl
  | t :: l => by rw [puts, bulks, bulks, put_bulk f t, puts_bulk f l]
end
mutual
theorem put_put (f g : Int → Int) : ∀ t : Term, (t.put f).put g = t.put (fun n => g (f n))
  | .node k n s ks => by
    simp only [Term.put, puts_puts f g ks]
    by_cases h : k = 1 <;> simp [h]
theorem puts_puts (f g : Int → Int) : ∀ l : List Term, puts g (puts f l) = puts (fun n => g (f n)) l
  | [] => rfl
  | t :: l => by simp only [puts, put_put f g t, puts_puts f g l]
end
mutual
theorem put_shift (d : Int) : ∀ t : Term, t.shift d = t.put (fun n => IntKind.i64.wrap (n + d))
  | .node k n s ks => by simp only [Term.shift, Term.put, puts_shifts d ks]
theorem puts_shifts (d : Int) : ∀ l : List Term, shifts d l = puts (fun n => IntKind.i64.wrap (n + d)) l
  | [] => rfl
  | t :: l => by simp only [shifts, puts, put_shift d t, puts_shifts d l]
end
mutual
theorem put_congr {f g : Int → Int} : ∀ t : Term, (∀ p ∈ t.parts, p.kind = 1 → f p.num = g p.num) → t.put f = t.put g
  | .node k n s ks, h => by
    simp only [Term.parts] at h
    simp only [Term.put]
    rw [puts_congr ks (fun p hp => h p (List.mem_cons_of_mem _ hp))]
    by_cases hk : k = 1
    · have := h (.node k n s ks) (by simp) hk; simp only [Term.num] at this; simp [hk, this]
    · simp [hk]
theorem puts_congr {f g : Int → Int} : ∀ l : List Term, (∀ p ∈ partss l, p.kind = 1 → f p.num = g p.num) → puts f l = puts g l
  | [], h => rfl
  | t :: l, h => by
    simp only [partss, List.mem_append] at h
    simp only [puts, put_congr t (fun p hp => h p (.inl hp)), puts_congr l (fun p hp => h p (.inr hp))]
end
mutual
theorem put_id {f : Int → Int} : ∀ t : Term, (∀ p ∈ t.parts, p.kind = 1 → f p.num = p.num) → t.put f = t
  | .node k n s ks, h => by
    simp only [Term.parts] at h
    simp only [Term.put]
    rw [puts_id ks (fun p hp => h p (List.mem_cons_of_mem _ hp))]
    by_cases hk : k = 1
    · have := h (.node k n s ks) (by simp) hk; simp only [Term.num] at this; simp [this]
    · simp [hk]
theorem puts_id {f : Int → Int} : ∀ l : List Term, (∀ p ∈ partss l, p.kind = 1 → f p.num = p.num) → puts f l = l
  | [], h => rfl
  | t :: l, h => by
    simp only [partss, List.mem_append] at h
    simp only [puts, put_id t (fun p hp => h p (.inl hp)), puts_id l (fun p hp => h p (.inr hp))]
end
mutual
theorem put_parts (f : Int → Int) : ∀ t : Term, (t.put f).parts = t.parts.map (Term.put f)
  | .node k n s ks => by simp only [Term.put, Term.parts, List.map_cons, puts_parts f ks]
theorem puts_parts (f : Int → Int) : ∀ l : List Term, partss (puts f l) = (partss l).map (Term.put f)
  | [] => rfl
  | t :: l => by simp only [puts, partss, List.map_append, put_parts f t, puts_parts f l]
end
theorem put_kind (f : Int → Int) (p : Term) : (p.put f).kind = p.kind := by cases p; rfl
theorem put_num (f : Int → Int) (p : Term) : (p.put f).num = if p.kind = 1 then f p.num else p.num := by cases p; rfl
theorem put_name (f : Int → Int) (p : Term) : (p.put f).name = p.name := by cases p; rfl
/-- Told apart as they were. -/
def InjOn (f : Int → Int) (l : List Int) : Prop := ∀ x ∈ l, ∀ y ∈ l, f x = f y → x = y
theorem fold_put {f : Int → Int} (V : List Int) (hf : InjOn f V) : ∀ (ps : List Term) (l : List Int), (∀ x ∈ l, x ∈ V) → (∀ p ∈ ps, p.kind = 1 → p.num ∈ V) → (ps.map (Term.put f)).foldl addVar (l.map f) = (ps.foldl addVar l).map f
  | [], l, _, _ => rfl
  | p :: ps, l, hl, hp => by
    simp only [List.map_cons, List.foldl_cons]
    have e : addVar (l.map f) (p.put f) = (addVar l p).map f := by
      unfold addVar
      rw [put_kind, put_num]
      by_cases hk : p.kind = 1
      · have hpn := hp p (by simp) hk
        have hmem : f p.num ∈ l.map f ↔ p.num ∈ l := by
          constructor
          · intro h
            obtain ⟨y, hy, he⟩ := List.mem_map.1 h
            rw [← hf y (hl y hy) p.num hpn he]; exact hy
          · exact fun h => List.mem_map_of_mem h
        simp only [hk, if_true, true_and, hmem]
        by_cases hin : p.num ∈ l <;> simp [hin]
      · simp [hk]
    rw [e]
    refine fold_put V hf ps _ (fun x hx => ?_) (fun q hq => hp q (by simp [hq]))
    unfold addVar at hx
    split at hx
    · rename_i hc
      rcases List.mem_append.1 hx with hx | hx
      · exact hl x hx
      · simp at hx; subst hx; exact hp p (by simp) hc.1
    · exact hl x hx
theorem vars_put {f : Int → Int} {t : Term} (hf : InjOn f t.vars) : (t.put f).vars = t.vars.map f := by
  have := fold_put t.vars hf t.parts [] (fun x hx => by cases hx) (fun p hp hk => (mem_vars _ _).2 ⟨p, hp, hk, rfl⟩)
  unfold Term.vars
  rw [put_parts]; exact this
theorem placeOf_get : ∀ (l : List Int) (j i : Nat) (h : i < l.length), l.Nodup → placeOf l l[i] j = ((j + i : Nat) : Int)
  | v :: l, j, 0, h, hn => by simp [placeOf]
  | v :: l, j, i + 1, h, hn => by
    obtain ⟨h1, h2⟩ := List.nodup_cons.1 hn
    simp only [List.length_cons] at h
    have hne : (l[i]'(by omega)) ≠ v := fun e => h1 (e ▸ List.getElem_mem _)
    simp only [List.getElem_cons_succ, placeOf, hne, if_false]
    rw [placeOf_get l (j + 1) i (by omega) h2]; congr 1; omega
theorem placeOf_inj {l : List Int} (hn : l.Nodup) : InjOn (fun n => placeOf l n 0) l := by
  intro x hx y hy h
  obtain ⟨i, hi, rfl⟩ := List.getElem_of_mem hx
  obtain ⟨j, hj, rfl⟩ := List.getElem_of_mem hy
  simp only [placeOf_get l 0 i hi hn, placeOf_get l 0 j hj hn] at h
  have : i = j := by omega
  subst this; rfl
def ups (n : Nat) : List Int := (List.range n).map Int.ofNat
theorem ups_len (n : Nat) : (ups n).length = n := by simp [ups]
theorem cups_get {n i : Nat} (h : i < (ups n).length) : (ups n)[i] = (i : Int) := by simp [ups]
theorem ups_nodup (n : Nat) : (ups n).Nodup := by
  unfold ups
  rw [List.Nodup, List.pairwise_map]
  exact (List.nodup_range).imp fun h e => h (Int.ofNat.inj e)
theorem map_place {l : List Int} (hn : l.Nodup) : l.map (fun n => placeOf l n 0) = ups l.length := by
  apply List.ext_getElem
  · simp [ups]
  · intro i h1 h2
    simp only [List.length_map] at h1
    rw [List.getElem_map, placeOf_get l 0 i h1 hn, cups_get]; simp
theorem place_ups {n : Nat} {x : Int} (h0 : 0 ≤ x) (h1 : x < n) : placeOf (ups n) x 0 = x := by
  have h : x.toNat < (ups n).length := by rw [ups_len]; omega
  have e := placeOf_get (ups n) 0 x.toNat h (ups_nodup n)
  rw [cups_get] at e
  rw [show ((x.toNat : Nat) : Int) = x by omega] at e
  rw [e]; omega
theorem place_map {h : Int → Int} : ∀ (l : List Int) (x : Int) (i : Nat), InjOn h (x :: l) → placeOf (l.map h) (h x) i = placeOf l x i
  | [], x, i, _ => rfl
  | v :: l, x, i, hi => by
    simp only [List.map_cons, placeOf]
    have hiff : h x = h v ↔ x = v := ⟨fun e => hi x (by simp) v (by simp) e, fun e => by rw [e]⟩
    simp only [hiff]
    rw [place_map l x (i + 1) (fun a ha b hb => hi a (by simp at ha ⊢; rcases ha with ha | ha <;> simp [ha]) b (by simp at hb ⊢; rcases hb with hb | hb <;> simp [hb]))]

/-! What is normal. -/
def Term.norm (t : Term) : Term := t.put (fun n => placeOf t.vars n 0)
theorem norm_vars (t : Term) : t.norm.vars = ups t.vars.length := by
  unfold Term.norm; rw [vars_put (placeOf_inj (vars_nodup t)), map_place (vars_nodup t)]
theorem norm_norm (t : Term) : t.norm.norm = t.norm := by
  refine put_id _ fun p hp hk => ?_
  have hm : p.num ∈ t.norm.vars := (mem_vars _ _).2 ⟨p, hp, hk, rfl⟩
  rw [norm_vars] at hm ⊢
  obtain ⟨i, hi, he⟩ := List.getElem_of_mem hm
  rw [cups_get] at he
  rw [ups_len] at hi
  exact place_ups (by omega) (by omega)
theorem norm_put {h : Int → Int} {t : Term} (hi : InjOn h t.vars) : (t.put h).norm = t.norm := by
  unfold Term.norm
  rw [vars_put hi, put_put]
  refine put_congr t fun p hp hk => ?_
  have hm : p.num ∈ t.vars := (mem_vars _ _).2 ⟨p, hp, hk, rfl⟩
  exact place_map t.vars p.num 0 fun a ha b hb => hi a (by rcases List.mem_cons.1 ha with rfl | ha; exact hm; exact ha) b (by rcases List.mem_cons.1 hb with rfl | hb; exact hm; exact hb)
theorem vars_fit {t : Term} (h : t.fits) : ∀ x ∈ t.vars, fit x := fun x hx => by
  obtain ⟨p, hp, _, rfl⟩ := (mem_vars x t).1 hx
  exact fit_num (fits_parts t h p hp)
theorem norm_shift {t : Term} (h : t.fits) (d : Int) : (t.shift d).norm = t.norm := by
  rw [put_shift]
  refine norm_put fun x hx y hy e => ?_
  exact wrap_inj (vars_fit h x hx) (vars_fit h y hy) e
theorem norm_size (t : Term) : t.norm.size = t.size := tput_size _ t
theorem norm_bulk (t : Term) : t.norm.bulk = t.bulk := put_bulk _ t
theorem norm_shifted {t : Term} (d : Int) (hs : t.size ≤ 2 ^ 30) : (t.norm.shift d).norm = t.norm := by
  rw [put_shift, norm_put, norm_norm]
  intro x hx y hy e
  have hb : ∀ z ∈ t.norm.vars, fit z := fun z hz => by
    rw [norm_vars] at hz
    obtain ⟨i, hi, rfl⟩ := List.getElem_of_mem hz
    rw [cups_get]
    rw [ups_len] at hi
    have : t.vars.length ≤ t.size := vars_size t
    constructor <;> omega
  exact wrap_inj (hb x hx) (hb y hy) e
section
variable {P : Program} {ro : Option Nat} {T : Nat → AV} {O : List AObj} {dst : Option Tmp} {ty : TypeId} {pos : String} {af : Array Edge} {g : Option (Nat × Bool)}
theorem opv_lookup_place {x ix : Operand} {t e id : Nat} {n : Int} {vs : List Int} [S : Mp P t .i64 e] [Z : Zv P e (.int .i64 0)] (hx : evT T x = .mp id) (hO : O[id]? = some (.mapo (mints .i64 (mplace vs 0)))) (hi : evT T ix = .d (.int .i64 n)) :
    OpV P ro ⟨dst, .lookup t x ix false, ty, pos, af, g⟩ T O (.d (.int .i64 (placeOf vs n 0))) O := by
  have := opv_lookup (P := P) (ro := ro) (dst := dst) (ty := ty) (pos := pos) (af := af) (g := g) (t := t) hx hO hi
  rwa [mfind_place] at this
theorem opv_update_place {m x ix : Operand} {t e id i : Nat} {vs : List Int} [S : Mp P t .i64 e] (hm : evT T m = .mp id) (hO : O[id]? = some (.mapo (mints .i64 (mplace (vs.take i) 0)))) (h : i < vs.length) (hi : evT T ix = .d (.int .i64 vs[i])) (hx : evT T x = .d (.int .i64 (i : Nat))) (hn : vs.Nodup) :
    OpV P ro ⟨dst, .mapUpdate t m ix x, ty, pos, af, g⟩ T O .unk (O.set id (.mapo (mints .i64 (mplace (vs.take (i + 1)) 0)))) := by
  have := opv_mapUpdate (P := P) (ro := ro) (dst := dst) (ty := ty) (pos := pos) (af := af) (g := g) (t := t) hm hO hi hx rfl
  rwa [mset_place h hn] at this
theorem opv_len_place {x : Operand} {t e id : Nat} {vs : List Int} [S : Mp P t .i64 e] (hx : evT T x = .mp id) (hO : O[id]? = some (.mapo (mints .i64 (mplace vs 0)))) :
    OpV P ro ⟨dst, .call { callee := .builtin .len, args := #[x], argTypes := #[t] }, ty, pos, af, g⟩ T O (.d (.int .i64 vs.length)) O := by
  have := opv_len_map (P := P) (ro := ro) (dst := dst) (ty := ty) (pos := pos) (af := af) (g := g) (O := O) (t := t) hx hO
  rwa [mplace_len] at this
end
/-! A term with new variables; a copy. -/
def cfreshT (s : St) (t : Term) (n : Int) : Term × Int := if (s.fresh n).2.2 = 0 then (t.shift (s.fresh n).2.1, 0) else (zeroT, (s.fresh n).2.2)
def copyT (s : St) (t : Term) : Term × Int := if (s.full t).2 = 0 then cfreshT s (s.full t).1.norm ((s.full t).1.vars.length : Nat) else (zeroT, (s.full t).2)
def copyS (s : St) (t : Term) : St := if (s.full t).2 = 0 then (s.fresh ((s.full t).1.vars.length : Nat)).1 else s
end Go.Proofs.Ytmokkjmoneablaa.AM
