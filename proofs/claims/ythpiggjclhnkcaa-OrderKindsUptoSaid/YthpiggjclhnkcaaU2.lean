/- A rule for each operation on pairs of terms. -/
import Derived.Test.YthpiggjclhnkcaaU0
import Derived.Test.YthpiggjclhnkcaaF1
import Derived.Test.YthpiggjclhnkcaaS5
namespace Go.Proofs.Ythpiggjclhnkcaa.AM
open Go
set_option linter.unusedVariables false
set_option linter.unusedSimpArgs false
def cellsTT (p : Term × Term) : List AV := cellsT p.1 ++ cellsT p.2
def encTT (p : Term × Term) : D := .agg (dcells p.1 ++ dcells p.2)
def encTTs (l : List (Term × Term)) : List D := l.map encTT
theorem encTTs_len (l : List (Term × Term)) : (encTTs l).length = l.length := by simp [encTTs]
theorem encTTs_app (l m : List (Term × Term)) : encTTs (l ++ m) = encTTs l ++ encTTs m := by simp [encTTs]
theorem encTTs_take (l : List (Term × Term)) (i : Nat) : (encTTs l).take i = encTTs (l.take i) := by simp [encTTs]
theorem encTT_len (p : Term × Term) : (encTT p).cells.length = 8 := rfl
section
variable {P : Program} {ro : Option Nat} {N : Nat} {K : Org} {T : Nat → AV} {O : List AObj} {dst : Option Tmp} {ty : TypeId} {pos : String} {af : Array Edge} {g : Option (Nat × Bool)}
theorem opv_build_tt {t : TypeId} {x y : Operand} {u v : Term} {z : List AV} [S : Strc P t [(0, 4), (4, 4)]] [Z : Ze P t z] (hz : z.length = 8) (hx : evT T x = .d (enc u)) (hy : evT T y = .d (enc v)) :
    OpV P ro ⟨dst, .build t #[(0, x), (1, y)], ty, pos, af, g⟩ T O (.d (encTT (u, v))) O := by
  obtain ⟨a, b, c, d, e, f, g', h, rfl⟩ : ∃ a b c d e f g' h, z = [a, b, c, d, e, f, g', h] := by
    match z, hz with
    | [a, b, c, d, e, f, g', h], _ => exact ⟨a, b, c, d, e, f, g', h, rfl⟩
  exact opv_build (cs := cellsT u ++ cellsT v) (by simp only [List.map_cons, List.map_nil, hx, hy, enc_d]; rfl)
theorem opv_box_tt {x : Operand} {t : TypeId} {p : Term × Term} (hx : evT T x = .d (encTT p)) : OpV P ro ⟨dst, .box t x, ty, pos, af, g⟩ T O (.ref O.length 0) (O ++ [.cells (cellsTT p)]) := opv_box hx rfl
theorem opv_store_tt {p x : Operand} {t id : Nat} {cs : List AV} {q : Term × Term} [S : Sz P t 8 true] (hp : evT T p = .ref id 0) (hO : O[id]? = some (.cells cs)) (hx : evT T x = .d (encTT q)) (hl : cs.length = 8) :
    OpV P ro ⟨dst, .store t p x, ty, pos, af, g⟩ T O .unk (O.set id (.cells (cellsTT q))) := by
  have := opv_store_ref (P := P) (ro := ro) (T := T) (O := O) (dst := dst) (ty := ty) (pos := pos) (af := af) (g := g) (S := S) (vs := cellsTT q) hp hO hx rfl rfl (by omega) rfl
  have e : setAV cs 0 (cellsTT q) = cellsTT q := by
    unfold setAV
    rw [List.drop_of_length_le (by show cs.length ≤ 0 + 8; omega)]; simp
  rw [e] at this
  exact this
theorem opv_load_tta {x : Operand} {t id : Nat} {p : Term × Term} [S : Sz P t 4 true] (hx : evT T x = .ref id 0) (hO : O[id]? = some (.cells (cellsTT p))) : OpV P ro ⟨dst, .load t x, ty, pos, af, g⟩ T O (.d (enc p.1)) O := opv_load_term hx hO rfl
theorem opv_load_ttb {x : Operand} {t id : Nat} {p : Term × Term} [S : Sz P t 4 true] (hx : evT T x = .ref id 4) (hO : O[id]? = some (.cells (cellsTT p))) : OpV P ro ⟨dst, .load t x, ty, pos, af, g⟩ T O (.d (enc p.2)) O := opv_load_term hx hO rfl
theorem opv_load_ttw {x : Operand} {t id : Nat} {p : Term × Term} [S : Sz P t 8 true] (hx : evT T x = .ref id 0) (hO : O[id]? = some (.cells (cellsTT p))) : OpV P ro ⟨dst, .load t x, ty, pos, af, g⟩ T O (.d (encTT p)) O := opv_load_ref (S := S) hx hO rfl
theorem opv_load_ott {x : Operand} {t id ver i e : Nat} {l : List (Term × Term)} [S : Sz P t 8 true] (hx : evT T x = .oel id ver i 0) (hO : O[id]? = some (.buf e 8 (encTTs l) ver)) (hi : i < l.length) :
    OpV P ro ⟨dst, .load t x, ty, pos, af, g⟩ T O (.d (encTT l[i])) O :=
  opv_load_oel (S := S) hx hO (y := encTT l[i]) (by simp [encTTs, hi]) rfl
theorem opv_load_ottq {x : Operand} {t id ver i e : Nat} {l : List (Term × Term)} {q : Term × Term} [S : Sz P t 8 true] (hx : evT T x = .oel id ver i 0) (hO : O[id]? = some (.buf e 8 (encTTs l) ver)) (hq : l[i]? = some q) :
    OpV P ro ⟨dst, .load t x, ty, pos, af, g⟩ T O (.d (encTT q)) O :=
  opv_load_oel (S := S) hx hO (y := encTT q) (by simp [encTTs, hq]) rfl
theorem opv_index_ott {x ix : Operand} {t e id ver i : Nat} {k : IntKind} {l : List (Term × Term)} [S : Slc P t e 8] (hx : evT T x = .own id ver) (hO : O[id]? = some (.buf e 8 (encTTs l) ver)) (hi : evT T ix = .d (.int k ((i : Nat) : Int))) (hl : i < l.length) :
    OpV P ro ⟨dst, .indexAddr t x ix, ty, pos, af, g⟩ T O (.oel id ver i 0) O :=
  opv_index_own (S := S) hx hO hi (Int.natCast_nonneg _) (by rw [encTTs_len]; omega)
theorem opv_len_ott {x : Operand} {t e id ver : Nat} {l : List (Term × Term)} [S : Slc P t e 8] (hx : evT T x = .own id ver) (hO : O[id]? = some (.buf e 8 (encTTs l) ver)) :
    OpV P ro ⟨dst, .call { callee := .builtin .len, args := #[x], argTypes := #[t] }, ty, pos, af, g⟩ T O (.d (.int .i64 (l.length : Nat))) O := by
  have h := opv_len_own (P := P) (ro := ro) (T := T) (O := O) (dst := dst) (ty := ty) (pos := pos) (af := af) (g := g) (t := t) hx hO
  rw [encTTs_len] at h
  exact h
theorem opv_cut_ott {x : Operand} {hi : Option Operand} {t e h id ver : Nat} {l : List (Term × Term)} [S : Slc P t e 8] (hx : evT T x = .own id ver) (hO : O[id]? = some (.buf e 8 (encTTs l) ver)) (hhi : ∃ y k, hi = some y ∧ evT T y = .d (.int k (h : Nat))) (hh : h ≤ l.length) :
    OpV P ro ⟨dst, .slice t x none hi none, ty, pos, af, g⟩ T O (.own id (ver + 1)) (O.set id (.buf e 8 (encTTs (l.take h)) (ver + 1))) := by
  have := opv_cut (P := P) (ro := ro) (T := T) (O := O) (dst := dst) (ty := ty) (pos := pos) (af := af) (g := g) (S := S) hx hO hhi (.inl rfl) (by rw [encTTs_len]; exact hh)
  rw [encTTs_take] at this
  exact this
theorem opv_append_ott {s x : Operand} {t e by_ id ver : Nat} {l m : List (Term × Term)} {z : List AV} [S : Slc P t e 8] [Z : Ze P e z] [B : Byt P e by_] (hs : evT T s = .own id ver) (hO : O[id]? = some (.buf e 8 (encTTs l) ver)) (hx : evT T x = .d (.list (encTTs m))) (hm : l.length + m.length ≤ 1073741824)
    (hz : Nat.beq z.length 8 = true := by rfl) (hby : Nat.ble by_ 4096 = true := by rfl) :
    OpV P ro ⟨dst, .call { callee := .builtin .append, args := #[s, x], argTypes := #[t, t] }, ty, pos, af, g⟩ T O (.own id (ver + 1)) (O.set id (.buf e 8 (encTTs (l ++ m)) (ver + 1))) := by
  have := opv_append_own (P := P) (ro := ro) (T := T) (O := O) (dst := dst) (ty := ty) (pos := pos) (af := af) (g := g) (S := S) (Z := Z) (B := B) hz hby hs hO hx rfl (fun y hy => by unfold encTTs at hy; obtain ⟨q, _, rfl⟩ := List.mem_map.1 hy; exact encTT_len q) (by rw [encTTs_len, encTTs_len]; exact hm)
  rw [← encTTs_app] at this
  exact this
theorem opv_bs_tt {t e : TypeId} {x : Operand} {z : List AV} {p : Term × Term} [S : Slc P t e 8] [Z : Ze P e z] (hx : evT T x = .d (encTT p)) :
    OpV P ro ⟨dst, .buildSlice t 1 #[(0, x)], ty, pos, af, g⟩ T O (.d (.list (encTTs [p]))) O :=
  opv_buildSlice (xs := encTTs [p]) (by simp only [List.map_cons, List.map_nil, hx]; rfl) rfl rfl rfl
/-- Three results. -/
theorem EndQ.tmps3 {fn : Func} {Q : AV → List AObj → Prop} {O' : List AObj} {e : Exit} {a s r : Tmp} {v v' v'' : AV} (he : e = .normal ∨ e = .ret) (hr : fn.results.toList = [.tmp a, .tmp s, .tmp r]) (ha : T a = v) (hs : T s = v') (hr' : T r = v'') (n : Nat) (h1 : O.length ≤ n) (h2 : n ≤ O'.length) (hb : AV.bds n [v, v', v'']) (hq : Q (.tup [v, v', v'']) (O'.take n)) : EndQ P fn O Q e T O' :=
  ⟨he, [v, v', v''], n, by rw [hr]; exact .cons ha (.cons hs (.cons hr' .nil)), h1, h2, hb, hq⟩
/-- A scope in which nothing jumps. -/
def scope0Q (Q : Exit → (Nat → AV) → List AObj → Prop) : Exit → (Nat → AV) → List AObj → Prop
  | .goto _, _, _ => False
  | e, T, O => Q e T O
theorem wpIn_scope0 {F : Fence} {n : Nat} {Q : Exit → Act → World → Prop} {a : Act} {w : World} {c : Code} (h : c.wpIn F n P (Exit.noGoto Q) a w) : (Code.scope c).wpIn F n P Q a w := by
  intro b k cs hro hb hr
  have h0 : (lone (b.atR a (.code (.scope c) :: k)) cs w).fenced P F := fenced_calm hb hr rfl
  obtain ⟨e, a₁, w₁, hq, harr⟩ := h b (.inScope c :: k) cs hro hb hr
  cases e with
  | normal => exact ⟨.normal, a₁, w₁, hq, .head h0 stepR_scope (StepsIn.trans harr (.one (fenced_calm hb hr rfl) stepR_inScope))⟩
  | exit id =>
    have hx : exitTo id (.inScope c :: k) = exitTo id k := by simp [exitTo]
    exact ⟨.exit id, a₁, w₁, hq, fun k' hk => .head h0 stepR_scope (harr.1 k' (by rw [hx]; exact hk)), fun hr' hk => let ⟨k₁, h1, h2⟩ := harr.2 hr' (by rw [hx]; exact hk); ⟨k₁, h1, .head h0 stepR_scope h2⟩⟩
  | goto l' => exact hq.elim
  | ret => exact ⟨_, a₁, w₁, hq, .of_steps (.one h0 stepR_scope) harr⟩
  | panic ch => exact ⟨_, a₁, w₁, hq, .of_steps (.one h0 stepR_scope) harr⟩
  | outgrown => exact ⟨_, a₁, w₁, hq, .of_steps (.one h0 stepR_scope) harr⟩
theorem Runs.scope0 {c : Code} {Q : Exit → (Nat → AV) → List AObj → Prop} (h : Runs P ro N K c T O (scope0Q Q)) : Runs P ro N K (.scope c) T O Q := fun a w hat => by
  refine wpIn_scope0 (wpIn_mono (h a w hat) fun e a' w' ⟨T', O', h1, h2⟩ => ?_)
  cases e with
  | goto l => exact h2.elim
  | _ => exact ⟨T', O', h1, h2⟩
theorem scope0Q_normal {Q : Exit → (Nat → AV) → List AObj → Prop} (h : Q .normal T O) : scope0Q Q .normal T O := h
theorem scope0Q_ret {Q : Exit → (Nat → AV) → List AObj → Prop} (h : Q .ret T O) : scope0Q Q .ret T O := h
theorem scope0Q_exit {j : Nat} {Q : Exit → (Nat → AV) → List AObj → Prop} (h : Q (.exit j) T O) : scope0Q Q (.exit j) T O := h
end
/-- A pair of which one is a variable. -/
def mbind (s : St) (a b : Term) : St × Bool × Bool :=
  if a.kind = 1 ∧ b.kind = 1 ∧ a.num = b.num then (s, true, true)
  else if a.kind = 1 then ((s.bind a.num b).1, true, (s.bind a.num b).2 == 0)
  else if b.kind = 1 then ((s.bind b.num a).1, true, (s.bind b.num a).2 == 0)
  else (s, false, false)
theorem mwk_done {l : Lt} {s : St} {lv : Int} {a b : Term} (h : (mbind s a b).2.1 = true) : mwk l s lv a b = ((mbind s a b).1, lv, if (mbind s a b).2.2 = true then some [] else none) := by
  unfold mbind at h ⊢
  unfold mwk
  split
  · rfl
  · split
    · simp
    · split
      · simp
      · rename_i h1 h2 h3; rw [if_neg h1, if_neg h2, if_neg h3] at h; cases h
theorem mwk_open {l : Lt} {s : St} {lv : Int} {a b : Term} (h : (mbind s a b).2.1 = false) : a.kind ≠ 1 ∧ b.kind ≠ 1 ∧ (mbind s a b).1 = s ∧ mwk l s lv a b = (s, l.join lv (l.join (sopen l a).2 (sopen l b).2), meetT (sopen l a).1 (sopen l b).1) := by
  unfold mbind at h ⊢
  unfold mwk
  split at h
  · cases h
  · rename_i h1
    split at h
    · cases h
    · rename_i h2
      split at h
      · cases h
      · rename_i h3
        rw [if_neg h1, if_neg h2, if_neg h3]
        exact ⟨h2, h3, rfl, by rw [if_neg h1, if_neg h2, if_neg h3]⟩
theorem mt_some {l : Lt} {m : Nat} {s s' : St} {lv lv' : Int} {a b : Term} {ps q : List (Term × Term)} (h : mwk l s lv (s.wk a) (s.wk b) = (s', lv', some q)) : mt l (m + 1) s lv ((a, b) :: ps) = mt l m s' lv' (q ++ ps) := by simp only [mt, mone, h]
theorem mt_none {l : Lt} {m : Nat} {s s' : St} {lv lv' : Int} {a b : Term} {ps : List (Term × Term)} (h : mwk l s lv (s.wk a) (s.wk b) = (s', lv', none)) : mt l (m + 1) s lv ((a, b) :: ps) = (s', false, lv', 0) := by simp only [mt, mone, h]
theorem mt_nil {l : Lt} (m : Nat) (s : St) (lv : Int) : mt l m s lv [] = (s, true, lv, 0) := by cases m <;> rfl
theorem mt_zero {l : Lt} (s : St) (lv : Int) (p : Term × Term) (ps : List (Term × Term)) : mt l 0 s lv (p :: ps) = (s, false, lv, 3) := rfl
/-- Where a run stands. -/
structure MX where
  s : St
  lv : Int
  m : Nat
  ps : List (Term × Term)
  ver : Nat
/-- The two lists' last pairs. -/
theorem zip_drop {xs ys : List Term} {i : Nat} (h : i < xs.length) (h' : i < ys.length) : ((xs.drop i).zip (ys.drop i)).reverse = ((xs.drop (i + 1)).zip (ys.drop (i + 1))).reverse ++ [(xs[i], ys[i])] := by
  rw [drop_get h, drop_get h', List.zip_cons_cons, List.reverse_cons]
end Go.Proofs.Ythpiggjclhnkcaa.AM
