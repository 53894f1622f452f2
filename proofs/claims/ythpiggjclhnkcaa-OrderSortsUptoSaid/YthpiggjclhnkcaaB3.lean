/- The rules for terms, and lists of terms and of numbers. -/
import Derived.Test.YthpiggjclhnkcaaB2
namespace Go.Proofs.Ythpiggjclhnkcaa.AM
open Go
set_option linter.unusedVariables false
set_option linter.unusedSimpArgs false

abbrev dcells (t : Term) : List D := [.int .i64 t.kind, .int .i64 t.num, .str t.name, .list (encs t.kids)]
abbrev cellsT (t : Term) : List AV := [.d (.int .i64 t.kind), .d (.int .i64 t.num), .d (.str t.name), .d (.list (encs t.kids))]
theorem enc_d (t : Term) : enc t = .agg (dcells t) := by cases t; rfl
def ints (l : List Int) : List D := l.map (D.int .i64)
theorem ints_len (l : List Int) : (ints l).length = l.length := by simp [ints]
theorem encs_app (l m : List Term) : encs (l ++ m) = encs l ++ encs m := by simp [encs_map]
theorem ints_app (l m : List Int) : ints (l ++ m) = ints l ++ ints m := by simp [ints]

section
variable {P : Program} {ro : Option Nat} {N : Nat} {K : Org} {T : Nat → AV} {O : List AObj} {dst : Option Tmp} {ty : TypeId} {pos : String} {af : Array Edge} {g : Option (Nat × Bool)}

theorem opv_box_term {x : Operand} {t : TypeId} {u : Term} (hx : evT T x = .d (enc u)) : OpV P ro ⟨dst, .box t x, ty, pos, af, g⟩ T O (.ref O.length 0) (O ++ [.cells (cellsT u)]) :=
  opv_box hx (by rw [enc_d]; rfl)
theorem opv_load_term {x : Operand} {t id off : Nat} {cs : List AV} {u : Term} [S : Sz P t 4 true] (hx : evT T x = .ref id off) (hO : O[id]? = some (.cells cs)) (hv : (cs.drop off).take 4 = cellsT u) :
    OpV P ro ⟨dst, .load t x, ty, pos, af, g⟩ T O (.d (enc u)) O := by
  refine opv_load_ref hx hO ?_
  have hl : 4 ≤ (cs.drop off).length := by have := congrArg List.length hv; rw [List.length_take] at this; simp at this; simp; omega
  simp only [takeAV, if_pos hl, hv, enc_d]
  rfl
theorem opv_load_node {x : Operand} {t id off : Nat} {cs : List AV} {k n : Int} {s : ByteArray} {y : AV} {ks : List Term} [S : Sz P t 4 true] (hx : evT T x = .ref id off) (hO : O[id]? = some (.cells cs)) (hv : (cs.drop off).take 4 = [.d (.int .i64 k), .d (.int .i64 n), .d (.str s), y]) (hy : asD y = some (.list (encs ks))) :
    OpV P ro ⟨dst, .load t x, ty, pos, af, g⟩ T O (.d (enc (.node k n s ks))) O := by
  refine opv_load_ref hx hO ?_
  have hl : 4 ≤ (cs.drop off).length := by have := congrArg List.length hv; rw [List.length_take] at this; simp at this; simp; omega
  simp only [takeAV, if_pos hl, hv]
  cases y with
  | d y => simp only [asD, Option.some.injEq] at hy; subst hy; rfl
  | nil0 => simp only [asD, Option.some.injEq, D.list.injEq] at hy; simp only [mkAgg, allD, Option.map_some, enc]; rw [← hy]
  | _ => cases hy
theorem opv_load_pterm {x : Operand} {t : Nat} {u : Term} [S : Sz P t 4 true] (hx : evT T x = .d (.ptr (dcells u))) : OpV P ro ⟨dst, .load t x, ty, pos, af, g⟩ T O (.d (enc u)) O :=
  opv_load_ptr hx (by rw [enc_d]; rfl)
theorem opv_index_terms {x ix : Operand} {t e : Nat} {i : Nat} {l : List Term} [S : Slc P t e 4] (hx : evT T x = .d (.list (encs l))) (hi : evT T ix = .d (.int .i64 i)) (hl : i < l.length) :
    OpV P ro ⟨dst, .indexAddr t x ix, ty, pos, af, g⟩ T O (.d (.ptr (dcells l[i]))) O := by
  have := opv_index_list (P := P) (ro := ro) (dst := dst) (ty := ty) (pos := pos) (af := af) (g := g) (O := O) (t := t) (y := enc l[i]) hx hi (Int.natCast_nonneg _) (by rw [encs_get]; simp [hl]) (enc_cells _)
  rwa [enc_d] at this
theorem opv_index_ints {x ix : Operand} {t e : Nat} {i : Nat} {l : List Int} [S : Slc P t e 1] (hx : evT T x = .d (.list (ints l))) (hi : evT T ix = .d (.int .i64 i)) (hl : i < l.length) :
    OpV P ro ⟨dst, .indexAddr t x ix, ty, pos, af, g⟩ T O (.d (.ptr [.int .i64 l[i]])) O :=
  opv_index_list (y := .int .i64 l[i]) hx hi (Int.natCast_nonneg _) (by simp [ints, hl]) rfl
theorem cells_enc (t : Term) : cellsOf (.d (enc t)) = some (cellsT t) := by rw [enc_d]; rfl
theorem opv_store_term {p x : Operand} {t id off : Nat} {cs : List AV} {u : Term} [S : Sz P t 4 true] (hp : evT T p = .ref id off) (hO : O[id]? = some (.cells cs)) (hx : evT T x = .d (enc u)) (hl : off + 4 ≤ cs.length) :
    OpV P ro ⟨dst, .store t p x, ty, pos, af, g⟩ T O .unk (O.set id (.cells (setAV cs off (cellsT u)))) :=
  opv_store_ref hp hO hx (cells_enc u) rfl hl rfl
theorem opv_build_term {t : TypeId} {parts : Array (Nat × Operand)} {places : List (Nat × Nat)} {z : List AV} {k n : Int} {s : ByteArray} {y : AV} {ks : List Term} [S : Strc P t places] [Z : Ze P t z]
    (h : fillAV places z (parts.toList.map fun p => (p.1, evT T p.2)) = some [.d (.int .i64 k), .d (.int .i64 n), .d (.str s), y]) (hy : asD y = some (.list (encs ks))) :
    OpV P ro ⟨dst, .build t parts, ty, pos, af, g⟩ T O (.d (enc (.node k n s ks))) O := by
  have := opv_build (P := P) (ro := ro) (dst := dst) (ty := ty) (pos := pos) (af := af) (g := g) (O := O) (t := t) h
  cases y with
  | d y => simp only [asD, Option.some.injEq] at hy; subst hy; exact this
  | nil0 => simp only [asD, Option.some.injEq, D.list.injEq] at hy; simp only [mkAgg, allD, Option.map_some] at this; rw [enc, ← hy]; exact this
  | _ => cases hy
theorem opv_bs_term1 {t e : Nat} {x : Operand} {u : Term} {z : List AV} [S : Slc P t e 4] [Z : Ze P e z] (h : evT T x = .d (enc u)) :
    OpV P ro ⟨dst, .buildSlice t 1 #[(0, x)], ty, pos, af, g⟩ T O (.d (.list (encs [u]))) O :=
  opv_buildSlice (by simp only [List.map_cons, List.map_nil, h, partsD, asD]; rfl) rfl (by simp [encs, enc_cells]) rfl
theorem opv_bs_int1 {t e : Nat} {x : Operand} {n : Int} {z : List AV} [S : Slc P t e 1] [Z : Ze P e z] (h : evT T x = .d (.int .i64 n)) :
    OpV P ro ⟨dst, .buildSlice t 1 #[(0, x)], ty, pos, af, g⟩ T O (.d (.list (ints [n]))) O :=
  opv_buildSlice (by simp only [List.map_cons, List.map_nil, h, partsD, asD]; rfl) rfl rfl rfl
theorem opv_bs_int2 {t e : Nat} {x y : Operand} {n m : Int} {z : List AV} [S : Slc P t e 1] [Z : Ze P e z] (h : evT T x = .d (.int .i64 n)) (h' : evT T y = .d (.int .i64 m)) :
    OpV P ro ⟨dst, .buildSlice t 2 #[(0, x), (1, y)], ty, pos, af, g⟩ T O (.d (.list (ints [n, m]))) O :=
  opv_buildSlice (by simp only [List.map_cons, List.map_nil, h, h', partsD, asD]; rfl) rfl rfl rfl
theorem opv_append_terms {s x : Operand} {t e by_ id ver : Nat} {l m : List Term} {z : List AV} [S : Slc P t e 4] [Z : Ze P e z] [B : Byt P e by_]
    (hs : evT T s = .own id ver) (hO : O[id]? = some (.buf e 4 (encs l) ver)) (hx : evT T x = .d (.list (encs m))) (hm : l.length + m.length ≤ 1073741824) (hz : Nat.beq z.length 4 = true := by rfl) (hby : Nat.ble by_ 4096 = true := by rfl) :
    OpV P ro ⟨dst, .call { callee := .builtin .append, args := #[s, x], argTypes := #[t, t] }, ty, pos, af, g⟩ T O (.own id (ver + 1)) (O.set id (.buf e 4 (encs (l ++ m)) (ver + 1))) := by
  have := opv_append_own (P := P) (ro := ro) (dst := dst) (ty := ty) (pos := pos) (af := af) (g := g) (t := t) hz hby hs hO hx rfl (fun y hy => by rw [encs_map] at hy; obtain ⟨u, _, rfl⟩ := List.mem_map.1 hy; exact enc_cells u) (by rw [encs_len, encs_len]; exact hm)
  rwa [← encs_app] at this
theorem opv_append_ints {s x : Operand} {t e by_ id ver : Nat} {l m : List Int} {z : List AV} [S : Slc P t e 1] [Z : Ze P e z] [B : Byt P e by_]
    (hs : evT T s = .own id ver) (hO : O[id]? = some (.buf e 1 (ints l) ver)) (hx : evT T x = .d (.list (ints m))) (hm : l.length + m.length ≤ 1073741824) (hz : Nat.beq z.length 1 = true := by rfl) (hby : Nat.ble by_ 4096 = true := by rfl) :
    OpV P ro ⟨dst, .call { callee := .builtin .append, args := #[s, x], argTypes := #[t, t] }, ty, pos, af, g⟩ T O (.own id (ver + 1)) (O.set id (.buf e 1 (ints (l ++ m)) (ver + 1))) := by
  have := opv_append_own (P := P) (ro := ro) (dst := dst) (ty := ty) (pos := pos) (af := af) (g := g) (t := t) hz hby hs hO hx rfl (fun y hy => by simp only [ints, List.mem_map] at hy; obtain ⟨u, _, rfl⟩ := hy; rfl) (by rw [ints_len, ints_len]; exact hm)
  rwa [← ints_app] at this
theorem opv_len_terms {x : Operand} {t e : TypeId} {l : List Term} [S : Und P t (.slice e)] (hx : evT T x = .d (.list (encs l))) :
    OpV P ro ⟨dst, .call { callee := .builtin .len, args := #[x], argTypes := #[t] }, ty, pos, af, g⟩ T O (.d (.int .i64 l.length)) O := by
  have := opv_len (P := P) (ro := ro) (dst := dst) (ty := ty) (pos := pos) (af := af) (g := g) (O := O) (t := t) hx rfl rfl
  rwa [encs_len] at this
theorem opv_len_ints {x : Operand} {t e : TypeId} {l : List Int} [S : Und P t (.slice e)] (hx : evT T x = .d (.list (ints l))) :
    OpV P ro ⟨dst, .call { callee := .builtin .len, args := #[x], argTypes := #[t] }, ty, pos, af, g⟩ T O (.d (.int .i64 l.length)) O := by
  have := opv_len (P := P) (ro := ro) (dst := dst) (ty := ty) (pos := pos) (af := af) (g := g) (O := O) (t := t) hx rfl rfl
  rwa [ints_len] at this
theorem opv_len_oterms {x : Operand} {t e id ver : Nat} {l : List Term} [S : Slc P t e 4] (hx : evT T x = .own id ver) (hO : O[id]? = some (.buf e 4 (encs l) ver)) :
    OpV P ro ⟨dst, .call { callee := .builtin .len, args := #[x], argTypes := #[t] }, ty, pos, af, g⟩ T O (.d (.int .i64 l.length)) O := by
  have := opv_len_own (P := P) (ro := ro) (dst := dst) (ty := ty) (pos := pos) (af := af) (g := g) (O := O) (t := t) hx hO
  rwa [encs_len] at this
theorem int_eq {k : IntKind} {a b : Int} (h : a = b) : AV.d (.int k a) = AV.d (.int k b) := by rw [h]
theorem bool_eq {a b : Bool} (h : a = b) : AV.d (.bool a) = AV.d (.bool b) := by rw [h]
theorem term_eq {a b : Term} (h : a = b) : AV.d (enc a) = AV.d (enc b) := by rw [h]
/-- A round's loop with what stays put apart. -/
theorem Runs.loopC {c : Code} {Q : Exit → (Nat → AV) → List AObj → Prop} {X : Type} (I : X → Prop) (μ : X → Nat) (lc : List (Nat × AV)) (l : X → List (Nat × AV)) (Oc : List AObj) (Ob : X → List AObj) (x0 : X) (hc : Has T lc) (hT : Has T (l x0)) (hO : O = Oc ++ Ob x0) (h0 : I x0)
    (round : ∀ x, I x → Runs P ro N K c (tb (l x ++ lc)) (Oc ++ Ob x) (thenQ (fun T O => ∃ y n, K.O.length ≤ n ∧ Has (fun s => (T s).kill n) lc ∧ Has (fun s => (T s).kill n) (l y) ∧ O.take n = Oc ++ Ob y ∧ I y ∧ μ y < μ x) Q)) : Runs P ro N K (.loop c) T O Q := by
  have happ : ∀ (T : Nat → AV) (a b : List (Nat × AV)), Has T a → Has T b → Has T (a ++ b) := by
    intro T a b ha hb
    induction a with
    | nil => exact hb
    | cons p a ih => exact ⟨ha.1, ih ha.2⟩
  refine Runs.loopD I μ (fun x => l x ++ lc) (fun x => Oc ++ Ob x) x0 h0 (happ _ _ _ hT hc) hO fun x hx => ?_
  refine (round x hx).mono fun e T O h => ?_
  cases e with
  | normal => obtain ⟨y, n, h1, h2, h3, h4, h5, h6⟩ := h; exact ⟨y, n, h5, h6, h1, happ _ _ _ h3 h2, h4⟩
  | _ => exact h
end
end Go.Proofs.Ythpiggjclhnkcaa.AM
