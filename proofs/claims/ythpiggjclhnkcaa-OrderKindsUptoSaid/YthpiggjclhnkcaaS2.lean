/- Stores: what they hold, what they compute. -/
import Derived.Test.YthpiggjclhnkcaaBE
namespace Go.Proofs.Ythpiggjclhnkcaa.AM
open Go
set_option linter.unusedVariables false
set_option linter.unusedSimpArgs false

structure St where
  cs : List (Option Term)
  tr : List Int
  v1 : Nat := 0
  v2 : Nat := 0

def encCell : Option Term → D
  | none => .agg [.bool false, .int .i64 0, .int .i64 0, .str ⟨#[]⟩, .list []]
  | some t => .agg (.bool true :: dcells t)
def encCells (l : List (Option Term)) : List D := l.map encCell
theorem encCell_len (c : Option Term) : (encCell c).cells.length = 5 := by cases c <;> rfl
theorem encCells_len (l : List (Option Term)) : (encCells l).length = l.length := by simp [encCells]
theorem encCells_app (l m : List (Option Term)) : encCells (l ++ m) = encCells l ++ encCells m := by simp [encCells]
theorem encCells_get (l : List (Option Term)) (i : Nat) : (encCells l)[i]? = (l[i]?).map encCell := by simp [encCells]
theorem encCells_set (l : List (Option Term)) (i : Nat) (c : Option Term) : encCells (l.set i c) = (encCells l).set i (encCell c) := by simp [encCells, List.map_set]
/-- A store's objects: its cells, its trail, itself. -/
def stO (eC eI : Nat) (s : St) : List AObj := [.buf eC 5 (encCells s.cs) s.v1, .buf eI 1 (ints s.tr) s.v2, .cells [.own 0 s.v1, .own 1 s.v2]]

/-- What a bound variable is bound to. -/
def St.look (s : St) (t : Term) : Option Term := if t.kind = 1 ∧ 0 ≤ t.num then (s.cs[t.num.toNat]?).join else none
def St.walk (s : St) : Nat → Term → Term
  | 0, t => t
  | n + 1, t => match s.look t with
    | none => t
    | some u => s.walk n u
def St.wk (s : St) (t : Term) : Term := s.walk (s.cs.length + 1) t
mutual
def inT (s : St) (v : Int) : Nat → Term → List Int → Option (Bool × List Int)
  | 0, _, _ => none
  | n + 1, t, seen => match s.look t with
    | some u => if t.num ∈ seen then some (false, seen) else inT s v n u (seen ++ [t.num])
    | none => if t.kind = 1 then some (t.num == v, seen) else if t.kind = 4 then some (false, seen) else inK s v n t.kids seen
def inK (s : St) (v : Int) : Nat → List Term → List Int → Option (Bool × List Int)
  | 0, _, _ => none
  | n + 1, [], seen => some (false, seen)
  | n + 1, k :: ks, seen => match inT s v n k seen with
    | some (false, seen') => inK s v n ks seen'
    | r => r
end
/-- How much there is to be looked at in what was not seen. -/
def potL (seen : List Int) : List (Option Term) → Nat → Nat
  | [], _ => 0
  | c :: cs, i => (match c with | some t => if (i : Int) ∈ seen then 0 else 2 * t.size + 2 | none => 0) + potL seen cs (i + 1)
def St.pot (s : St) (seen : List Int) : Nat := potL seen s.cs 0
def St.has (s : St) (v : Int) (t : Term) : Bool := match inT s v (2 * t.size + s.pot []) t [] with
  | some (b, _) => b
  | none => false

theorem potL_mono {a b : List Int} (h : ∀ x ∈ a, x ∈ b) : ∀ (cs : List (Option Term)) (i : Nat), potL b cs i ≤ potL a cs i
  | [], i => Nat.le_refl _
  | c :: cs, i => by
    have := potL_mono h cs (i + 1)
    simp only [potL]
    cases c with
    | none => simpa using this
    | some t =>
      simp only
      by_cases hb : (i : Int) ∈ b
      · rw [if_pos hb]; omega
      · rw [if_neg hb, if_neg (fun ha => hb (h _ ha))]; omega
theorem potL_add (a : List Int) : ∀ (cs : List (Option Term)) (i j : Nat) (u : Term), cs[j]? = some (some u) → ((i + j : Nat) : Int) ∉ a → potL (a ++ [((i + j : Nat) : Int)]) cs i + (2 * u.size + 2) ≤ potL a cs i
  | [], i, j, u, h, _ => by simp at h
  | c :: cs, i, 0, u, h, hn => by
    simp only [List.getElem?_cons_zero, Option.some.injEq] at h
    subst h
    have := potL_mono (a := a) (b := a ++ [((i + 0 : Nat) : Int)]) (fun x hx => List.mem_append_left _ hx) cs (i + 1)
    simp only [Nat.add_zero] at hn this ⊢
    simp only [potL]
    rw [if_pos (by simp), if_neg hn]
    omega
  | c :: cs, i, j + 1, u, h, hn => by
    have e : i + (j + 1) = (i + 1) + j := by omega
    rw [e] at hn ⊢
    have := potL_add a cs (i + 1) j u (by simpa using h) hn
    simp only [potL]
    cases c with
    | none => simpa using this
    | some t =>
      simp only
      by_cases hi : (i : Int) ∈ a
      · rw [if_pos (List.mem_append_left _ hi), if_pos hi]; omega
      · rw [if_neg hi, if_neg (by
          intro hh
          rcases List.mem_append.1 hh with hh | hh
          · exact hi hh
          · simp at hh; omega)]
        omega
theorem look_some {s : St} {t u : Term} (h : s.look t = some u) : t.kind = 1 ∧ 0 ≤ t.num ∧ s.cs[t.num.toNat]? = some (some u) := by
  unfold St.look at h
  split at h
  · rename_i hc
    refine ⟨hc.1, hc.2, ?_⟩
    cases hq : s.cs[t.num.toNat]? with
    | none => rw [hq] at h; cases h
    | some c => rw [hq] at h; simp only [Option.join_some] at h; rw [h]
  · cases h
theorem in_total (s : St) (v : Int) : ∀ n, (∀ (t : Term) (seen : List Int), 2 * t.size + s.pot seen ≤ n → ∃ b seen', inT s v n t seen = some (b, seen') ∧ s.pot seen' ≤ s.pot seen) ∧
    (∀ (ks : List Term) (seen : List Int), 2 * sizes ks + 1 + s.pot seen ≤ n → ∃ b seen', inK s v n ks seen = some (b, seen') ∧ s.pot seen' ≤ s.pot seen) := by
  intro n
  induction n with
  | zero =>
    refine ⟨fun t seen h => ?_, fun ks seen h => by omega⟩
    have := t.size_kids; omega
  | succ n ih =>
    constructor
    · intro t seen h
      simp only [inT]
      cases hl : s.look t with
      | some u =>
        simp only
        by_cases hs : t.num ∈ seen
        · rw [if_pos hs]; exact ⟨_, _, rfl, Nat.le_refl _⟩
        · rw [if_neg hs]
          obtain ⟨h1, h2, h3⟩ := look_some hl
          have hp := potL_add seen s.cs 0 t.num.toNat u h3 (by simpa [Int.toNat_of_nonneg h2] using hs)
          simp only [Nat.zero_add, Int.toNat_of_nonneg h2] at hp
          have hp' : s.pot (seen ++ [t.num]) + (2 * u.size + 2) ≤ s.pot seen := hp
          have := t.size_kids
          obtain ⟨b, seen', e1, e2⟩ := ih.1 u (seen ++ [t.num]) (by omega)
          exact ⟨b, seen', e1, by omega⟩
      | none =>
        simp only
        by_cases k1 : t.kind = 1
        · rw [if_pos k1]; exact ⟨_, _, rfl, Nat.le_refl _⟩
        · rw [if_neg k1]
          by_cases k4 : t.kind = 4
          · rw [if_pos k4]; exact ⟨_, _, rfl, Nat.le_refl _⟩
          · rw [if_neg k4]
            have := t.size_kids
            exact ih.2 t.kids seen (by omega)
    · intro ks seen h
      cases ks with
      | nil => exact ⟨false, seen, rfl, Nat.le_refl _⟩
      | cons k ks =>
        simp only [sizes] at h
        obtain ⟨b, seen', e1, e2⟩ := ih.1 k seen (by omega)
        simp only [inK, e1]
        cases b with
        | true => exact ⟨_, _, rfl, e2⟩
        | false =>
          have := k.size_kids
          obtain ⟨b', seen2, e3, e4⟩ := ih.2 ks seen' (by omega)
          exact ⟨b', seen2, e3, by omega⟩
theorem has_in (s : St) (v : Int) (t : Term) : ∃ seen, inT s v (2 * t.size + s.pot []) t [] = some (s.has v t, seen) := by
  obtain ⟨b, seen, h, _⟩ := (in_total s v _).1 t [] (Nat.le_refl _)
  exact ⟨seen, by simp only [St.has, h]⟩

/-! What is done to a store. -/
def St.fresh (s : St) (n : Int) : St × Int × Int :=
  if n < 0 then (s, 0, 1) else if n > 4096 - (s.cs.length : Int) then (s, 0, 3) else ({ s with cs := s.cs ++ List.replicate n.toNat none, v1 := s.v1 + 1 }, s.cs.length, 0)
def St.bind (s : St) (v : Int) (t : Term) : St × Int :=
  if v < 0 ∨ (s.cs.length : Int) ≤ v then (s, 5) else if ((s.cs[v.toNat]?).join).isSome then (s, 6) else if s.has v t then (s, 4) else ({ s with cs := s.cs.set v.toNat (some t), tr := s.tr ++ [v], v2 := s.v2 + 1 }, 0)
def clears : List Int → List (Option Term) → List (Option Term)
  | [], cs => cs
  | v :: l, cs => clears l (cs.set v.toNat none)
def St.cutAt (s : St) (m : Int) : Nat := (min (max m 0) (s.tr.length : Int)).toNat
def St.undo (s : St) (m : Int) : St := { s with cs := clears (s.tr.drop (s.cutAt m)) s.cs, tr := s.tr.take (s.cutAt m), v2 := s.v2 + 1 }
def zeroT : Term := .node 0 0 ⟨#[]⟩ []
/-- A term filled: m parts deeper at most. -/
def fillT (W : Term → Term) : Nat → Term → Int → Int → Term × Int × Int
  | m, t, l, e =>
    let t := W t
    let e := if e = 0 ∧ m = 0 then 7 else e
    let l := IntKind.i64.wrap (l - 1)
    let e := if e = 0 ∧ l < 0 then 3 else e
    if e = 0 then match m with
      | 0 => (zeroT, l, e)
      | m + 1 =>
        let r := t.kids.foldl (fun (x : List Term × Int × Int) k => let y := fillT W m k x.2.1 x.2.2; (x.1 ++ [y.1], y.2)) ([], l, e)
        (.node t.kind t.num t.name r.1, r.2)
    else (zeroT, l, e)
def St.full (s : St) (t : Term) : Term × Int :=
  let x := fillT s.wk 60 t 1000 0
  if x.2.2 = 0 then (x.1, 0) else (zeroT, x.2.2)
end Go.Proofs.Ythpiggjclhnkcaa.AM

/- The rules for stores' cells, for sets of numbers, for pointers to objects against nil. -/
namespace Go.Proofs.Ythpiggjclhnkcaa.AM
open Go
set_option linter.unusedVariables false
set_option linter.unusedSimpArgs false
def mseen (l : List Int) : List (D × D) := mints .i64 (l.map fun n => (n, .bool true))
theorem mfind_seen (n : Int) : ∀ l : List Int, mfind (l.map fun n => (n, D.bool true)) n = if n ∈ l then some (.bool true) else none
  | [] => by simp [mfind]
  | x :: l => by
    simp only [List.map_cons, mfind, mfind_seen n l, List.mem_cons]
    by_cases h : n = x
    · simp [h]
    · simp [h]
theorem mset_seen {n : Int} {l : List Int} (h : n ∉ l) : mset (l.map fun n => (n, D.bool true)) n (.bool true) = (l ++ [n]).map fun n => (n, D.bool true) := by
  rw [mset_none _ _ _ (by rw [mfind_seen, if_neg h])]; simp
section
variable {P : Program} {ro : Option Nat} {N : Nat} {K : Org} {T : Nat → AV} {O : List AObj} {dst : Option Tmp} {ty : TypeId} {pos : String} {af : Array Edge} {g : Option (Nat × Bool)}

theorem opv_eqnil_ref {t yt e id off : Nat} {x y : Operand} {cs : List AV} [S : Und P t (.pointer e)] (hx : evT T x = .ref id off) (hO : O[id]? = some (.cells cs)) (hy : evT T y = .d .nilp) : OpV P ro ⟨dst, .binOp .eql t x y yt, ty, pos, af, g⟩ T O (.d (.bool false)) O :=
  OpV.of_same (fun c h => by cases h) fun w F γ ac I H => by
    have h0 := H.at (x := x) (by simp [Op.operands]) hx
    obtain ⟨g', b, hg, hb, h1⟩ := refAt_val hO h0.2
    have h2 : ac.eval y = .pointer none := H.at (x := y) (by simp [Op.operands]) hy
    refine ⟨.bool false, ?_, rfl⟩
    simp only [execOp, h1, h2]
    have hq := run_eql_pointer_nil (P := P) w t (some ⟨b, off, none⟩) (by simp [Program.pointee, S.h])
    rw [Sem.run_bind]
    simp only [eqGuard, Sem.run_bind]
    simp [hq]
theorem opv_nenil_ref {t yt e id off : Nat} {x y : Operand} {cs : List AV} [S : Und P t (.pointer e)] (hx : evT T x = .ref id off) (hO : O[id]? = some (.cells cs)) (hy : evT T y = .d .nilp) : OpV P ro ⟨dst, .binOp .neq t x y yt, ty, pos, af, g⟩ T O (.d (.bool true)) O :=
  OpV.of_same (fun c h => by cases h) fun w F γ ac I H => by
    have h0 := H.at (x := x) (by simp [Op.operands]) hx
    obtain ⟨g', b, hg, hb, h1⟩ := refAt_val hO h0.2
    have h2 : ac.eval y = .pointer none := H.at (x := y) (by simp [Op.operands]) hy
    refine ⟨.bool true, ?_, rfl⟩
    simp only [execOp, h1, h2]
    have hq := run_neq_pointer_nil (P := P) w t (some ⟨b, off, none⟩) (by simp [Program.pointee, S.h])
    rw [Sem.run_bind]
    simp only [eqGuard, Sem.run_bind]
    simp [hq]

theorem opv_index_cells {x ix : Operand} {t e id ver : Nat} {k : IntKind} {i : Int} {cs : List (Option Term)} [S : Slc P t e 5] (hx : evT T x = .own id ver) (hO : O[id]? = some (.buf e 5 (encCells cs) ver)) (hi : evT T ix = .d (.int k i)) (h0 : 0 ≤ i) (hl : i < cs.length) :
    OpV P ro ⟨dst, .indexAddr t x ix, ty, pos, af, g⟩ T O (.oel id ver i.toNat 0) O := opv_index_own hx hO hi h0 (by rw [encCells_len]; exact hl)
theorem opv_load_bound {x : Operand} {t id ver i e : Nat} {cs : List (Option Term)} {c : Option Term} [S : Sz P t 1 false] (hx : evT T x = .oel id ver i 0) (hO : O[id]? = some (.buf e 5 (encCells cs) ver)) (hc : cs[i]? = some c) :
    OpV P ro ⟨dst, .load t x, ty, pos, af, g⟩ T O (.d (.bool c.isSome)) O :=
  opv_load_oel hx hO (y := encCell c) (by rw [encCells_get, hc]; rfl) (by cases c <;> rfl)
theorem opv_load_cellt {x : Operand} {t id ver i e : Nat} {cs : List (Option Term)} {u : Term} [S : Sz P t 4 true] (hx : evT T x = .oel id ver i 1) (hO : O[id]? = some (.buf e 5 (encCells cs) ver)) (hc : cs[i]? = some (some u)) :
    OpV P ro ⟨dst, .load t x, ty, pos, af, g⟩ T O (.d (enc u)) O :=
  opv_load_oel hx hO (y := encCell (some u)) (by rw [encCells_get, hc]; rfl) (by rw [enc_d]; rfl)
theorem opv_load_oint {x : Operand} {t id ver i e : Nat} {l : List Int} [S : Sz P t 1 false] (hx : evT T x = .oel id ver i 0) (hO : O[id]? = some (.buf e 1 (ints l) ver)) (hl : i < l.length) :
    OpV P ro ⟨dst, .load t x, ty, pos, af, g⟩ T O (.d (.int .i64 l[i])) O :=
  opv_load_oel hx hO (y := .int .i64 l[i]) (by simp [ints, hl]) rfl
theorem opv_build_cell {t : TypeId} {x y : Operand} {u : Term} [S : Strc P t [(0, 1), (1, 4)]] [Z : Ze P t [.d (.bool false), .d (.int .i64 0), .d (.int .i64 0), .d (.str ⟨#[]⟩), .nil0]] (hx : evT T x = .d (.bool true)) (hy : evT T y = .d (enc u)) :
    OpV P ro ⟨dst, .build t #[(0, x), (1, y)], ty, pos, af, g⟩ T O (.d (encCell (some u))) O :=
  opv_build (cs := .d (.bool true) :: cellsT u) (by simp only [List.map_cons, List.map_nil, hx, hy, enc_d]; rfl)
theorem opv_store_cell {p x : Operand} {t id ver i e : Nat} {cs : List (Option Term)} {c : Option Term} [S : Sz P t 5 true] (hp : evT T p = .oel id ver i 0) (hO : O[id]? = some (.buf e 5 (encCells cs) ver)) (hx : evT T x = .d (encCell c)) (hi : i < cs.length) :
    OpV P ro ⟨dst, .store t p x, ty, pos, af, g⟩ T O .unk (O.set id (.buf e 5 (encCells (cs.set i c)) ver)) := by
  rw [encCells_set]
  exact opv_store_oel hp hO hx rfl (by rw [encCells_len]; exact hi) rfl (encCell_len c)
theorem opv_append_cells0 {s x : Operand} {t ti e by_ id ver n : Nat} {k : IntKind} {cs : List (Option Term)} [S : Slc P t e 5] [Z : Ze P e [.d (.bool false), .d (.int .i64 0), .d (.int .i64 0), .d (.str ⟨#[]⟩), .nil0]] [B : Byt P e by_] [U : Und P ti (.int .i64)]
    (hs : evT T s = .own id ver) (hO : O[id]? = some (.buf e 5 (encCells cs) ver)) (hx : evT T x = .d (.int k (n : Nat))) (hm : cs.length + n ≤ 1073741824) (hby : Nat.ble by_ 4096 = true := by rfl) :
    OpV P ro ⟨dst, .call { callee := .builtin .append, args := #[s, x], argTypes := #[t, ti] }, ty, pos, af, g⟩ T O (.own id (ver + 1)) (O.set id (.buf e 5 (encCells (cs ++ List.replicate n none)) (ver + 1))) := by
  have := opv_append_zeros (P := P) (ro := ro) (dst := dst) (ty := ty) (pos := pos) (af := af) (g := g) (t := t) (ti := ti) (encCell none) rfl rfl rfl hby hs hO hx (by rw [encCells_len]; exact hm)
  rwa [encCells_app, encCells, encCells, List.map_replicate, ← encCells]
theorem opv_lookup_seen {x ix : Operand} {t e id : Nat} {n : Int} {l : List Int} [S : Mp P t .i64 e] [Z : Zv P e (.bool false)] (hx : evT T x = .mp id) (hO : O[id]? = some (.mapo (mseen l))) (hi : evT T ix = .d (.int .i64 n)) :
    OpV P ro ⟨dst, .lookup t x ix false, ty, pos, af, g⟩ T O (.d (.bool (decide (n ∈ l)))) O := by
  have := opv_lookup (P := P) (ro := ro) (dst := dst) (ty := ty) (pos := pos) (af := af) (g := g) (t := t) hx hO hi
  rw [mfind_seen] at this
  by_cases h : n ∈ l
  · simpa [h] using this
  · simpa [h] using this
theorem opv_update_seen {m x ix : Operand} {t e id : Nat} {n : Int} {l : List Int} [S : Mp P t .i64 e] (hm : evT T m = .mp id) (hO : O[id]? = some (.mapo (mseen l))) (hi : evT T ix = .d (.int .i64 n)) (hx : evT T x = .d (.bool true)) (hn : n ∉ l) :
    OpV P ro ⟨dst, .mapUpdate t m ix x, ty, pos, af, g⟩ T O .unk (O.set id (.mapo (mseen (l ++ [n])))) := by
  have := opv_mapUpdate (P := P) (ro := ro) (dst := dst) (ty := ty) (pos := pos) (af := af) (g := g) (t := t) hm hO hi hx rfl
  rwa [mset_seen hn] at this
theorem opv_slice_osl1 {x lo : Operand} {t e sz id ver : Nat} {k : IntKind} {l : Nat} {xs : List D} [S : Slc P t e sz] (hx : evT T x = .own id ver) (hO : O[id]? = some (.buf e sz xs ver)) (hlo : evT T lo = .d (.int k (l : Nat))) (hl : l ≤ xs.length) :
    OpV P ro ⟨dst, .slice t x (some lo) none none, ty, pos, af, g⟩ T O (.osl id ver l (xs.length - l)) O := opv_slice_osl hx hO ⟨k, hlo⟩ rfl hl (Nat.le_refl _)

theorem opv_len_cells {x : Operand} {t e id ver : Nat} {cs : List (Option Term)} [S : Slc P t e 5] (hx : evT T x = .own id ver) (hO : O[id]? = some (.buf e 5 (encCells cs) ver)) :
    OpV P ro ⟨dst, .call { callee := .builtin .len, args := #[x], argTypes := #[t] }, ty, pos, af, g⟩ T O (.d (.int .i64 cs.length)) O := by
  have := opv_len_own (P := P) (ro := ro) (dst := dst) (ty := ty) (pos := pos) (af := af) (g := g) (O := O) (t := t) hx hO
  rwa [encCells_len] at this
theorem opv_cut_ints {x : Operand} {hi mx : Option Operand} {t e h id ver : Nat} {l : List Int} [S : Slc P t e 1] (hx : evT T x = .own id ver) (hO : O[id]? = some (.buf e 1 (ints l) ver)) (hhi : ∃ y k, hi = some y ∧ evT T y = .d (.int k (h : Nat))) (hmx : mx = none ∨ ∃ y k, mx = some y ∧ evT T y = .d (.int k (h : Nat))) (hh : h ≤ l.length) :
    OpV P ro ⟨dst, .slice t x none hi mx, ty, pos, af, g⟩ T O (.own id (ver + 1)) (O.set id (.buf e 1 (ints (l.take h)) (ver + 1))) := by
  have := opv_cut (P := P) (ro := ro) (dst := dst) (ty := ty) (pos := pos) (af := af) (g := g) (t := t) hx hO hhi hmx (by rw [ints_len]; exact hh)
  simpa only [ints, List.map_take] using this
/-- A struct built, its two zero slices the call's own. -/
theorem opv_build_own2 (k k' : Nat) {t : TypeId} {places : List (Nat × Nat)} {e sz e' sz' : Nat} [S : Strc P t places] [Z : Ze P t [.nil0, .nil0]] (hO : O[k]? = some (.buf e sz [] 0)) (hO' : O[k']? = some (.buf e' sz' [] 0)) :
    OpV P ro ⟨dst, .build t #[], ty, pos, af, g⟩ T O (.agg [.own k 0, .own k' 0]) O :=
  OpV.of_same (fun c h => by cases h) fun w F γ a I H => by
    obtain ⟨zv, hz, he, ho⟩ := Z.h
    obtain ⟨i, hi, hz⟩ := Option.bind_eq_some_iff.1 hz
    have hzl : zv.cells.toList = [.slice none 0 0, .slice none 0 0] := by
      match hl : zv.cells.toList, he with
      | [v, v'], he =>
        simp only [List.map_cons, List.map_nil, List.cons.injEq, and_true] at he
        rw [const_nil he.1, const_nil he.2]
      | [], he => simp at he
      | [_], he => simp at he
      | _ :: _ :: _ :: _, he => simp at he
    have hc : AV.VC w F γ O [.own k 0, .own k' 0] zv.cells.toList := by
      rw [hzl]; exact ⟨_, _, rfl, rfl, own_nil I hO, _, _, rfl, rfl, own_nil I hO', rfl⟩
    obtain ⟨rs, e1, e2⟩ := fillAV_ok (places := places) [] [] _ zv.cells.toList _ hc rfl (fun j p q h1 h2 => by simp at h1) rfl
    refine ⟨.agg rs.toArray, ?_, ⟨rs, rfl, e2⟩⟩
    have hpl := S.h
    unfold Program.placesOf at hpl
    have hb : P.built t ((#[].map fun x : Nat × Operand => (x.1, a.eval x.2)).toList) = some rs.toArray := by
      unfold Program.built
      rw [hi]
      cases hu : P.underlying t with
      | none => rw [hu] at hpl; cases hpl
      | some d =>
        rw [hu] at hpl
        cases d <;> first | cases hpl | (simp only [hz, hpl]; simpa using e1)
    have := run_build (P := P) w t (#[].map fun x : Nat × Operand => (x.1, a.eval x.2)) rs.toArray hb
    simp only [execOp, Sem.run_bind, this, Result.andThen_ok]
    rfl
theorem RD.opq {ops : Array Oper} {ids : List Nat} {any imp : List Bool} {Q : (Nat → AV) → List AObj → Prop} {op : Op} {dst : Tmp} {ty : TypeId} {pos : String} {af : Array Edge} {rest : List Oper} {v v' : AV} {O1 : List AObj}
    (h : OpV P ro ⟨some dst, op, ty, pos, af, none⟩ T O v O1) (hv : v = v') (hO : O1 = O) (hr : RD P ro N ops ids any imp rest (upd T dst v') O Q) (hd : Nat.blt dst N = true := by rfl) : RD P ro N ops ids (false :: any) (false :: imp) (⟨some dst, op, ty, pos, af, none⟩ :: rest) T O Q := by
  subst hv; subst hO; exact RD.op h hr hd
/-- Two results: a term in a variable, and another one. -/
theorem EndQ.ct {fn : Func} {Q : AV → List AObj → Prop} {O' : List AObj} {e : Exit} {a s : Tmp} {t : TypeId} {id off n0 : Nat} {ag : Bool} {cs : List AV} {v v' : AV} [S : Sz P t n0 ag] (he : e = .normal ∨ e = .ret) (hr : fn.results.toList = [.cell a t, .tmp s]) (ha : T a = .ref id off) (hO : O'[id]? = some (.cells cs)) (hv : takeAV ag n0 (cs.drop off) = some v) (hs : T s = v') (n : Nat) (h1 : O.length ≤ n) (h2 : n ≤ O'.length) (hb : v.bd n) (hb' : v'.bd n) (hq : Q (.tup [v, v']) (O'.take n)) : EndQ P fn O Q e T O' :=
  ⟨he, [v, v'], n, by rw [hr]; exact .cons ⟨id, off, cs, n0, ag, ha, hO, S, hv⟩ (.cons hs .nil), h1, h2, ⟨hb, hb', trivial⟩, hq⟩
theorem EndQ.tmps2 {fn : Func} {Q : AV → List AObj → Prop} {O' : List AObj} {e : Exit} {a s : Tmp} {v v' : AV} (he : e = .normal ∨ e = .ret) (hr : fn.results.toList = [.tmp a, .tmp s]) (ha : T a = v) (hs : T s = v') (n : Nat) (h1 : O.length ≤ n) (h2 : n ≤ O'.length) (hb : AV.bds n [v, v']) (hq : Q (.tup [v, v']) (O'.take n)) : EndQ P fn O Q e T O' :=
  ⟨he, [v, v'], n, by rw [hr]; exact .cons ha (.cons hs .nil), h1, h2, hb, hq⟩
theorem take_term (u : Term) : takeAV true 4 ((cellsT u).drop 0) = some (.d (enc u)) := by rw [enc_d]; rfl
end
end Go.Proofs.Ythpiggjclhnkcaa.AM

/- Plain facts about stores. -/
namespace Go.Proofs.Ythpiggjclhnkcaa.AM
open Go
set_option linter.unusedVariables false
set_option linter.unusedSimpArgs false
theorem inT_pos {s : St} {v : Int} {n : Nat} {t : Term} {l : List Int} {r : Bool × List Int} (h : inT s v n t l = some r) : ∃ m, n = m + 1 := by
  cases n with
  | zero => simp [inT] at h
  | succ m => exact ⟨m, rfl⟩
theorem inK_pos {s : St} {v : Int} {n : Nat} {ks : List Term} {l : List Int} {r : Bool × List Int} (h : inK s v n ks l = some r) : ∃ m, n = m + 1 := by
  cases n with
  | zero => simp [inK] at h
  | succ m => exact ⟨m, rfl⟩
theorem inK_cons {s : St} {v : Int} {m : Nat} {k : Term} {ks : List Term} {l l' : List Int} {b : Bool} (h : inK s v (m + 1) (k :: ks) l = some (b, l')) :
    ∃ b2 l2, inT s v m k l = some (b2, l2) ∧ ((b2 = true ∧ b = true ∧ l' = l2) ∨ (b2 = false ∧ inK s v m ks l2 = some (b, l'))) := by
  simp only [inK] at h
  cases hr : inT s v m k l with
  | none => rw [hr] at h; cases h
  | some r =>
    obtain ⟨b2, l2⟩ := r
    rw [hr] at h
    refine ⟨b2, l2, rfl, ?_⟩
    cases b2 with
    | true => simp only [Option.some.injEq, Prod.mk.injEq] at h; exact .inl ⟨rfl, h.1.symm, h.2.symm⟩
    | false => exact .inr ⟨rfl, h⟩
theorem inK_nil {s : St} {v : Int} {m : Nat} {l l' : List Int} {b : Bool} (h : inK s v (m + 1) [] l = some (b, l')) : b = false ∧ l' = l := by
  simp only [inK, Option.some.injEq, Prod.mk.injEq] at h; exact ⟨h.1.symm, h.2.symm⟩
theorem bound_i {s : St} {t : Term} (h1 : t.kind = 1) (h2 : 0 ≤ t.num) (h3 : t.num < (s.cs.length : Int)) : s.cs[t.num.toNat]? = some (s.look t) := by
  have h : t.num.toNat < s.cs.length := by omega
  simp [St.look, h1, h2, h]
theorem look_far {s : St} {t : Term} (h : ¬ t.num < (s.cs.length : Int)) : s.look t = none := by
  unfold St.look
  split
  · rw [List.getElem?_eq_none (by omega)]; rfl
  · rfl
theorem look_none_of {s : St} {t : Term} (h : (s.look t).isSome = false) : s.look t = none := by
  cases hq : s.look t with
  | none => rfl
  | some u => rw [hq] at h; cases h
theorem look_lt {s : St} {t u : Term} (h : s.look t = some u) : t.kind = 1 ∧ 0 ≤ t.num ∧ t.num < (s.cs.length : Int) ∧ s.cs[t.num.toNat]? = some (some u) := by
  obtain ⟨h1, h2, h3⟩ := look_some h
  have := (List.getElem?_eq_some_iff.1 h3).1
  exact ⟨h1, h2, by omega, h3⟩
theorem walk_stop {s : St} {t : Term} (h : s.look t = none) : ∀ n, s.walk n t = t
  | 0 => rfl
  | n + 1 => by simp only [St.walk, h]
theorem walk_nx {s : St} {t u : Term} (h : s.look t = some u) (n : Nat) : s.walk (n + 1) t = s.walk n u := by simp only [St.walk, h]
theorem cs_join {cs : List (Option Term)} {i : Nat} (h : i < cs.length) : cs[i]? = some ((cs[i]?).join) := by simp [h]
/-- All that is bound is of so much at most. -/
def St.small (s : St) (B : Nat) : Prop := ∀ (i : Nat) (u : Term), s.cs[i]? = some (some u) → u.bulk ≤ B
theorem walk_bulk {s : St} {B : Nat} (hs : s.small B) : ∀ (n : Nat) (t : Term), t.bulk ≤ B → (s.walk n t).bulk ≤ B
  | 0, t, h => h
  | n + 1, t, h => by
    cases hl : s.look t with
    | none => rw [walk_stop hl]; exact h
    | some u => rw [walk_nx hl]; exact walk_bulk hs n u (hs _ _ (look_some hl).2.2)
theorem wk_bulk {s : St} {B : Nat} (hs : s.small B) (t : Term) (h : t.bulk ≤ B) : (s.wk t).bulk ≤ B := walk_bulk hs _ t h

theorem toNat_lt {v : Int} {n : Nat} (h1 : 0 ≤ v) (h2 : v < (n : Int)) : v.toNat < n := by omega
theorem clears_len : ∀ (l : List Int) (cs : List (Option Term)), (clears l cs).length = cs.length
  | [], cs => rfl
  | v :: l, cs => by rw [clears, clears_len l]; simp
theorem clears_snoc : ∀ (l : List Int) (v : Int) (cs : List (Option Term)), clears (l ++ [v]) cs = (clears l cs).set v.toNat none
  | [], v, cs => rfl
  | u :: l, v, cs => by rw [List.cons_append, clears, clears, clears_snoc l v]
theorem clears_take {l : List Int} {i : Nat} {cs : List (Option Term)} (h : i < l.length) : clears (l.take (i + 1)) cs = (clears (l.take i) cs).set (l[i]).toNat none := by rw [List.take_succ_eq_append_getElem h, clears_snoc]
theorem cut_le (s : St) (m : Int) : s.cutAt m ≤ s.tr.length := by unfold St.cutAt; omega
theorem cut_eq (s : St) (m : Int) : (if (s.tr.length : Int) < (if 0 > m then 0 else m) then (s.tr.length : Int) else (if 0 > m then 0 else m)) = ((s.cutAt m : Nat) : Int) := by
  unfold St.cutAt
  split <;> split <;> omega
theorem drop_get' {α : Type} {l : List α} {i : Nat} (h : i < l.length) : l.drop i = l[i] :: l.drop (i + 1) := List.drop_eq_getElem_cons h

def fillK (W : Term → Term) (m : Nat) (ks : List Term) (l e : Int) : List Term × Int × Int :=
  ks.foldl (fun (x : List Term × Int × Int) k => let y := fillT W m k x.2.1 x.2.2; (x.1 ++ [y.1], y.2)) ([], l, e)
theorem fillT_seven {W : Term → Term} {m : Nat} {t : Term} {l e : Int} (he : e = 0) (hm : m = 0) : fillT W m t l e = (zeroT, IntKind.i64.wrap (l - 1), 7) := by
  subst he; subst hm; simp [fillT]
theorem fillT_three {W : Term → Term} {m : Nat} {t : Term} {l e : Int} (he : e = 0) (hm : m ≠ 0) (hl : IntKind.i64.wrap (l - 1) < 0) : fillT W m t l e = (zeroT, IntKind.i64.wrap (l - 1), 3) := by
  subst he
  cases m with
  | zero => exact absurd rfl hm
  | succ m => simp [fillT, hl]
theorem fillT_old {W : Term → Term} {m : Nat} {t : Term} {l e : Int} (he : e ≠ 0) : fillT W m t l e = (zeroT, IntKind.i64.wrap (l - 1), e) := by
  cases m <;> simp [fillT, he]
theorem fillT_ok {W : Term → Term} {m : Nat} {t : Term} {l : Int} (hl : ¬ IntKind.i64.wrap (l - 1) < 0) : fillT W (m + 1) t l 0 = (.node (W t).kind (W t).num (W t).name (fillK W m (W t).kids (IntKind.i64.wrap (l - 1)) 0).1, (fillK W m (W t).kids (IntKind.i64.wrap (l - 1)) 0).2) := by
  simp [fillT, hl, fillK]
theorem fillK_snoc (W : Term → Term) (m : Nat) (ks : List Term) (k : Term) (l e : Int) : fillK W m (ks ++ [k]) l e = ((fillK W m ks l e).1 ++ [(fillT W m k (fillK W m ks l e).2.1 (fillK W m ks l e).2.2).1], (fillT W m k (fillK W m ks l e).2.1 (fillK W m ks l e).2.2).2) := by
  simp [fillK, List.foldl_append]
theorem fillK_take (W : Term → Term) (m : Nat) {ks : List Term} {i : Nat} (h : i < ks.length) (l e : Int) : fillK W m (ks.take (i + 1)) l e = ((fillK W m (ks.take i) l e).1 ++ [(fillT W m ks[i] (fillK W m (ks.take i) l e).2.1 (fillK W m (ks.take i) l e).2.2).1], (fillT W m ks[i] (fillK W m (ks.take i) l e).2.1 (fillK W m (ks.take i) l e).2.2).2) := by
  rw [List.take_succ_eq_append_getElem h, fillK_snoc]
theorem fillK_len (W : Term → Term) (m : Nat) (l e : Int) : ∀ (ks : List Term), (fillK W m ks l e).1.length = ks.length := by
  intro ks
  rw [← List.reverse_reverse ks]
  induction ks.reverse with
  | nil => rfl
  | cons k ks ih => rw [List.reverse_cons, fillK_snoc, List.length_append, ih]; simp
theorem binD_add {a b r : Int} (h : IntKind.i64.wrap (a + b) = r) : binD .add (.int .i64 a) (.int .i64 b) = some (.int .i64 r) := by simp [binD, h]
theorem binD_sub {a b r : Int} (h : IntKind.i64.wrap (a - b) = r) : binD .sub (.int .i64 a) (.int .i64 b) = some (.int .i64 r) := by simp [binD, h]
end Go.Proofs.Ythpiggjclhnkcaa.AM
