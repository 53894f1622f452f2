/- The rules for stores' cells, for sets of numbers, for pointers to objects against nil. -/
import Derived.Test.YthpiggjclhnkcaaS0
namespace Go.Proofs.Ythpiggjclhnkcaa.AM
open Go
set_option linter.unusedVariables false
set_option linter.unusedSimpArgs false
def mseen (l : List Int) : List (D × D) := mints .i64 (l.map fun n => (n, .bool true))
theorem mfind_seen (n : Int) : ∀ l : List Int, mfind (l.map fun n => (n, D.bool true)) n = if n ∈ l then some (.bool true) else none
  | [] => by simp [mfind]
  | x :: l => by
    simp only [List.map_cons, mfind, mfind_seen n l, List.mem_cons]
    by_cases h : n = x
    · simp [h]
    · simp [h]
theorem mset_seen {n : Int} {l : List Int} (h : n ∉ l) : mset (l.map fun n => (n, D.bool true)) n (.bool true) = (l ++ [n]).map fun n => (n, D.bool true) := by
  rw [mset_none _ _ _ (by rw [mfind_seen, if_neg h])]; simp
section
variable {P : Program} {ro : Option Nat} {N : Nat} {K : Org} {T : Nat → AV} {O : List AObj} {dst : Option Tmp} {ty : TypeId} {pos : String} {af : Array Edge} {g : Option (Nat × Bool)}

theorem opv_eqnil_ref {t yt e id off : Nat} {x y : Operand} {cs : List AV} [S : Und P t (.pointer e)] (hx : evT T x = .ref id off) (hO : O[id]? = some (.cells cs)) (hy : evT T y = .d .nilp) : OpV P ro ⟨dst, .binOp .eql t x y yt, ty, pos, af, g⟩ T O (.d (.bool false)) O :=
  OpV.of_same (fun c h => by cases h) fun w F γ ac I H => by
    have h0 := H.at (x := x) (by simp [Op.operands]) hx
    obtain ⟨g', b, hg, hb, h1⟩ := refAt_val hO h0.2
    have h2 : ac.eval y = .pointer none := H.at (x := y) (by simp [Op.operands]) hy
    refine ⟨.bool false, ?_, rfl⟩
    simp only [execOp, h1, h2]
    have hq := run_eql_pointer_nil (P := P) w t (some ⟨b, off, none⟩) (by simp [Program.pointee, S.h])
    rw [Sem.run_bind]
    simp only [eqGuard, Sem.run_bind]
    simp [hq]
theorem opv_nenil_ref {t yt e id off : Nat} {x y : Operand} {cs : List AV} [S : Und P t (.pointer e)] (hx : evT T x = .ref id off) (hO : O[id]? = some (.cells cs)) (hy : evT T y = .d .nilp) : OpV P ro ⟨dst, .binOp .neq t x y yt, ty, pos, af, g⟩ T O (.d (.bool true)) O :=
  OpV.of_same (fun c h => by cases h) fun w F γ ac I H => by
    have h0 := H.at (x := x) (by simp [Op.operands]) hx
    obtain ⟨g', b, hg, hb, h1⟩ := refAt_val hO h0.2
    have h2 : ac.eval y = .pointer none := H.at (x := y) (by simp [Op.operands]) hy
    refine ⟨.bool true, ?_, rfl⟩
    simp only [execOp, h1, h2]
    have hq := run_neq_pointer_nil (P := P) w t (some ⟨b, off, none⟩) (by simp [Program.pointee, S.h])
    rw [Sem.run_bind]
    simp only [eqGuard, Sem.run_bind]
    simp [hq]

theorem opv_index_cells {x ix : Operand} {t e id ver : Nat} {k : IntKind} {i : Int} {cs : List (Option Term)} [S : Slc P t e 5] (hx : evT T x = .own id ver) (hO : O[id]? = some (.buf e 5 (encCells cs) ver)) (hi : evT T ix = .d (.int k i)) (h0 : 0 ≤ i) (hl : i < cs.length) :
    OpV P ro ⟨dst, .indexAddr t x ix, ty, pos, af, g⟩ T O (.oel id ver i.toNat 0) O := opv_index_own hx hO hi h0 (by rw [encCells_len]; exact hl)
theorem opv_load_bound {x : Operand} {t id ver i e : Nat} {cs : List (Option Term)} {c : Option Term} [S : Sz P t 1 false] (hx : evT T x = .oel id ver i 0) (hO : O[id]? = some (.buf e 5 (encCells cs) ver)) (hc : cs[i]? = some c) :
    OpV P ro ⟨dst, .load t x, ty, pos, af, g⟩ T O (.d (.bool c.isSome)) O :=
  opv_load_oel hx hO (y := encCell c) (by rw [encCells_get, hc]; rfl) (by cases c <;> rfl)
theorem opv_load_cellt {x : Operand} {t id ver i e : Nat} {cs : List (Option Term)} {u : Term} [S : Sz P t 4 true] (hx : evT T x = .oel id ver i 1) (hO : O[id]? = some (.buf e 5 (encCells cs) ver)) (hc : cs[i]? = some (some u)) :
    OpV P ro ⟨dst, .load t x, ty, pos, af, g⟩ T O (.d (enc u)) O :=
  opv_load_oel hx hO (y := encCell (some u)) (by rw [encCells_get, hc]; rfl) (by rw [enc_d]; rfl)
theorem opv_load_oint {x : Operand} {t id ver i e : Nat} {l : List Int} [S : Sz P t 1 false] (hx : evT T x = .oel id ver i 0) (hO : O[id]? = some (.buf e 1 (ints l) ver)) (hl : i < l.length) :
    OpV P ro ⟨dst, .load t x, ty, pos, af, g⟩ T O (.d (.int .i64 l[i])) O :=
  opv_load_oel hx hO (y := .int .i64 l[i]) (by simp [ints, hl]) rfl
theorem opv_build_cell {t : TypeId} {x y : Operand} {u : Term} [S : Strc P t [(0, 1), (1, 4)]] [Z : Ze P t [.d (.bool false), .d (.int .i64 0), .d (.int .i64 0), .d (.str ⟨#[]⟩), .nil0]] (hx : evT T x = .d (.bool true)) (hy : evT T y = .d (enc u)) :
    OpV P ro ⟨dst, .build t #[(0, x), (1, y)], ty, pos, af, g⟩ T O (.d (encCell (some u))) O :=
  opv_build (cs := .d (.bool true) :: cellsT u) (by simp only [List.map_cons, List.map_nil, hx, hy, enc_d]; rfl)
theorem opv_store_cell {p x : Operand} {t id ver i e : Nat} {cs : List (Option Term)} {c : Option Term} [S : Sz P t 5 true] (hp : evT T p = .oel id ver i 0) (hO : O[id]? = some (.buf e 5 (encCells cs) ver)) (hx : evT T x = .d (encCell c)) (hi : i < cs.length) :
    OpV P ro ⟨dst, .store t p x, ty, pos, af, g⟩ T O .unk (O.set id (.buf e 5 (encCells (cs.set i c)) ver)) := by
  rw [encCells_set]
  exact opv_store_oel hp hO hx rfl (by rw [encCells_len]; exact hi) rfl (encCell_len c)
theorem opv_append_cells0 {s x : Operand} {t ti e by_ id ver n : Nat} {k : IntKind} {cs : List (Option Term)} [S : Slc P t e 5] [Z : Ze P e [.d (.bool false), .d (.int .i64 0), .d (.int .i64 0), .d (.str ⟨#[]⟩), .nil0]] [B : Byt P e by_] [U : Und P ti (.int .i64)]
    (hs : evT T s = .own id ver) (hO : O[id]? = some (.buf e 5 (encCells cs) ver)) (hx : evT T x = .d (.int k (n : Nat))) (hm : cs.length + n ≤ 1073741824) (hby : Nat.ble by_ 4096 = true := by rfl) :
    OpV P ro ⟨dst, .call { callee := .builtin .append, args := #[s, x], argTypes := #[t, ti] }, ty, pos, af, g⟩ T O (.own id (ver + 1)) (O.set id (.buf e 5 (encCells (cs ++ List.replicate n none)) (ver + 1))) := by
  have := opv_append_zeros (P := P) (ro := ro) (dst := dst) (ty := ty) (pos := pos) (af := af) (g := g) (t := t) (ti := ti) (encCell none) rfl rfl rfl hby hs hO hx (by rw [encCells_len]; exact hm)
  rwa [encCells_app, encCells, encCells, List.map_replicate, ← encCells]
theorem opv_lookup_seen {x ix : Operand} {t e id : Nat} {n : Int} {l : List Int} [S : Mp P t .i64 e] [Z : Zv P e (.bool false)] (hx : evT T x = .mp id) (hO : O[id]? = some (.mapo (mseen l))) (hi : evT T ix = .d (.int .i64 n)) :
    OpV P ro ⟨dst, .lookup t x ix false, ty, pos, af, g⟩ T O (.d (.bool (decide (n ∈ l)))) O := by
  have := opv_lookup (P := P) (ro := ro) (dst := dst) (ty := ty) (pos := pos) (af := af) (g := g) (t := t) hx hO hi
  rw [mfind_seen] at this
  by_cases h : n ∈ l
  · simpa [h] using this
  · simpa [h] using this
theorem opv_update_seen {m x ix : Operand} {t e id : Nat} {n : Int} {l : List Int} [S : Mp P t .i64 e] (hm : evT T m = .mp id) (hO : O[id]? = some (.mapo (mseen l))) (hi : evT T ix = .d (.int .i64 n)) (hx : evT T x = .d (.bool true)) (hn : n ∉ l) :
    OpV P ro ⟨dst, .mapUpdate t m ix x, ty, pos, af, g⟩ T O .unk (O.set id (.mapo (mseen (l ++ [n])))) := by
  have := opv_mapUpdate (P := P) (ro := ro) (dst := dst) (ty := ty) (pos := pos) (af := af) (g := g) (t := t) hm hO hi hx rfl
  rwa [mset_seen hn] at this
theorem opv_slice_osl1 {x lo : Operand} {t e sz id ver : Nat} {k : IntKind} {l : Nat} {xs : List D} [S : Slc P t e sz] (hx : evT T x = .own id ver) (hO : O[id]? = some (.buf e sz xs ver)) (hlo : evT T lo = .d (.int k (l : Nat))) (hl : l ≤ xs.length) :
    OpV P ro ⟨dst, .slice t x (some lo) none none, ty, pos, af, g⟩ T O (.osl id ver l (xs.length - l)) O := opv_slice_osl hx hO ⟨k, hlo⟩ rfl hl (Nat.le_refl _)

theorem opv_len_cells {x : Operand} {t e id ver : Nat} {cs : List (Option Term)} [S : Slc P t e 5] (hx : evT T x = .own id ver) (hO : O[id]? = some (.buf e 5 (encCells cs) ver)) :
    OpV P ro ⟨dst, .call { callee := .builtin .len, args := #[x], argTypes := #[t] }, ty, pos, af, g⟩ T O (.d (.int .i64 cs.length)) O := by
  have := opv_len_own (P := P) (ro := ro) (dst := dst) (ty := ty) (pos := pos) (af := af) (g := g) (O := O) (t := t) hx hO
  rwa [encCells_len] at this
theorem opv_cut_ints {x : Operand} {hi mx : Option Operand} {t e h id ver : Nat} {l : List Int} [S : Slc P t e 1] (hx : evT T x = .own id ver) (hO : O[id]? = some (.buf e 1 (ints l) ver)) (hhi : ∃ y k, hi = some y ∧ evT T y = .d (.int k (h : Nat))) (hmx : mx = none ∨ ∃ y k, mx = some y ∧ evT T y = .d (.int k (h : Nat))) (hh : h ≤ l.length) :
    OpV P ro ⟨dst, .slice t x none hi mx, ty, pos, af, g⟩ T O (.own id (ver + 1)) (O.set id (.buf e 1 (ints (l.take h)) (ver + 1))) := by
  have := opv_cut (P := P) (ro := ro) (dst := dst) (ty := ty) (pos := pos) (af := af) (g := g) (t := t) hx hO hhi hmx (by rw [ints_len]; exact hh)
  simpa only [ints, List.map_take] using this
/-- A struct built, its two zero slices the call's own. -/
theorem opv_build_own2 (k k' : Nat) {t : TypeId} {places : List (Nat × Nat)} {e sz e' sz' : Nat} [S : Strc P t places] [Z : Ze P t [.nil0, .nil0]] (hO : O[k]? = some (.buf e sz [] 0)) (hO' : O[k']? = some (.buf e' sz' [] 0)) :
    OpV P ro ⟨dst, .build t #[], ty, pos, af, g⟩ T O (.agg [.own k 0, .own k' 0]) O :=
  OpV.of_same (fun c h => by cases h) fun w F γ a I H => by
    obtain ⟨zv, hz, he, ho⟩ := Z.h
    obtain ⟨i, hi, hz⟩ := Option.bind_eq_some_iff.1 hz
    have hzl : zv.cells.toList = [.slice none 0 0, .slice none 0 0] := by
      match hl : zv.cells.toList, he with
      | [v, v'], he =>
        simp only [List.map_cons, List.map_nil, List.cons.injEq, and_true] at he
        rw [const_nil he.1, const_nil he.2]
      | [], he => simp at he
      | [_], he => simp at he
      | _ :: _ :: _ :: _, he => simp at he
    have hc : AV.VC w F γ O [.own k 0, .own k' 0] zv.cells.toList := by
      rw [hzl]; exact ⟨_, _, rfl, rfl, own_nil I hO, _, _, rfl, rfl, own_nil I hO', rfl⟩
    obtain ⟨rs, e1, e2⟩ := fillAV_ok (places := places) [] [] _ zv.cells.toList _ hc rfl (fun j p q h1 h2 => by simp at h1) rfl
    refine ⟨.agg rs.toArray, ?_, ⟨rs, rfl, e2⟩⟩
    have hpl := S.h
    unfold Program.placesOf at hpl
    have hb : P.built t ((#[].map fun x : Nat × Operand => (x.1, a.eval x.2)).toList) = some rs.toArray := by
      unfold Program.built
      rw [hi]
      cases hu : P.underlying t with
      | none => rw [hu] at hpl; cases hpl
      | some d =>
        rw [hu] at hpl
        cases d <;> first | cases hpl | (simp only [hz, hpl]; simpa using e1)
    have := run_build (P := P) w t (#[].map fun x : Nat × Operand => (x.1, a.eval x.2)) rs.toArray hb
    simp only [execOp, Sem.run_bind, this, Result.andThen_ok]
    rfl
theorem RD.opq {ops : Array Oper} {ids : List Nat} {any imp : List Bool} {Q : (Nat → AV) → List AObj → Prop} {op : Op} {dst : Tmp} {ty : TypeId} {pos : String} {af : Array Edge} {rest : List Oper} {v v' : AV} {O1 : List AObj}
    (h : OpV P ro ⟨some dst, op, ty, pos, af, none⟩ T O v O1) (hv : v = v') (hO : O1 = O) (hr : RD P ro N ops ids any imp rest (upd T dst v') O Q) (hd : Nat.blt dst N = true := by rfl) : RD P ro N ops ids (false :: any) (false :: imp) (⟨some dst, op, ty, pos, af, none⟩ :: rest) T O Q := by
  subst hv; subst hO; exact RD.op h hr hd
/-- Two results: a term in a variable, and another one. -/
theorem EndQ.ct {fn : Func} {Q : AV → List AObj → Prop} {O' : List AObj} {e : Exit} {a s : Tmp} {t : TypeId} {id off n0 : Nat} {ag : Bool} {cs : List AV} {v v' : AV} [S : Sz P t n0 ag] (he : e = .normal ∨ e = .ret) (hr : fn.results.toList = [.cell a t, .tmp s]) (ha : T a = .ref id off) (hO : O'[id]? = some (.cells cs)) (hv : takeAV ag n0 (cs.drop off) = some v) (hs : T s = v') (n : Nat) (h1 : O.length ≤ n) (h2 : n ≤ O'.length) (hb : v.bd n) (hb' : v'.bd n) (hq : Q (.tup [v, v']) (O'.take n)) : EndQ P fn O Q e T O' :=
  ⟨he, [v, v'], n, by rw [hr]; exact .cons ⟨id, off, cs, n0, ag, ha, hO, S, hv⟩ (.cons hs .nil), h1, h2, ⟨hb, hb', trivial⟩, hq⟩
theorem EndQ.tmps2 {fn : Func} {Q : AV → List AObj → Prop} {O' : List AObj} {e : Exit} {a s : Tmp} {v v' : AV} (he : e = .normal ∨ e = .ret) (hr : fn.results.toList = [.tmp a, .tmp s]) (ha : T a = v) (hs : T s = v') (n : Nat) (h1 : O.length ≤ n) (h2 : n ≤ O'.length) (hb : AV.bds n [v, v']) (hq : Q (.tup [v, v']) (O'.take n)) : EndQ P fn O Q e T O' :=
  ⟨he, [v, v'], n, by rw [hr]; exact .cons ha (.cons hs .nil), h1, h2, hb, hq⟩
theorem take_term (u : Term) : takeAV true 4 ((cellsT u).drop 0) = some (.d (enc u)) := by rw [enc_d]; rfl
end
end Go.Proofs.Ythpiggjclhnkcaa.AM
