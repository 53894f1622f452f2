/- Rules that order's functions ask for. -/
import Derived.Test.YthpiggjclhnkcaaV0
import Derived.Test.YthpiggjclhnkcaaU2
namespace Go.Proofs.Ythpiggjclhnkcaa.AM
open Go
set_option linter.unusedVariables false
set_option linter.unusedSimpArgs false
section
variable {P : Program} {ro : Option Nat} {N : Nat} {K : Org} {T : Nat → AV} {O : List AObj} {dst : Option Tmp} {ty : TypeId} {pos : String} {af : Array Edge} {g : Option (Nat × Bool)}
theorem opv_bs_int4 {t e : TypeId} {x y u v : Operand} {z : List AV} {a b c d : Int} [S : Slc P t e 1] [Z : Ze P e z] (hx : evT T x = .d (.int .i64 a)) (hy : evT T y = .d (.int .i64 b)) (hu : evT T u = .d (.int .i64 c)) (hv : evT T v = .d (.int .i64 d)) :
    OpV P ro ⟨dst, .buildSlice t 4 #[(0, x), (1, y), (2, u), (3, v)], ty, pos, af, g⟩ T O (.d (.list (ints [a, b, c, d]))) O :=
  opv_buildSlice (xs := ints [a, b, c, d]) (by simp only [List.map_cons, List.map_nil, hx, hy, hu, hv]; rfl) rfl rfl rfl
theorem opv_bs_term4 {t e : TypeId} {x y u v : Operand} {z : List AV} {a b c d : Term} [S : Slc P t e 4] [Z : Ze P e z] (hx : evT T x = .d (enc a)) (hy : evT T y = .d (enc b)) (hu : evT T u = .d (enc c)) (hv : evT T v = .d (enc d)) :
    OpV P ro ⟨dst, .buildSlice t 4 #[(0, x), (1, y), (2, u), (3, v)], ty, pos, af, g⟩ T O (.d (.list (encs [a, b, c, d]))) O :=
  opv_buildSlice (xs := encs [a, b, c, d]) (by simp only [List.map_cons, List.map_nil, hx, hy, hu, hv]; rfl) rfl (by simp [encs, enc_cells]) rfl
theorem opv_index_oterm {x ix : Operand} {t e id ver i : Nat} {k : IntKind} {l : List Term} [S : Slc P t e 4] (hx : evT T x = .own id ver) (hO : O[id]? = some (.buf e 4 (encs l) ver)) (hi : evT T ix = .d (.int k ((i : Nat) : Int))) (hl : i < l.length) :
    OpV P ro ⟨dst, .indexAddr t x ix, ty, pos, af, g⟩ T O (.oel id ver i 0) O :=
  opv_index_own (S := S) hx hO hi (Int.natCast_nonneg _) (by rw [encs_len]; omega)
theorem opv_load_oterm {x : Operand} {t id ver i e : Nat} {l : List Term} {u : Term} [S : Sz P t 4 true] (hx : evT T x = .oel id ver i 0) (hO : O[id]? = some (.buf e 4 (encs l) ver)) (hu : l[i]? = some u) :
    OpV P ro ⟨dst, .load t x, ty, pos, af, g⟩ T O (.d (enc u)) O :=
  opv_load_oel (S := S) hx hO (y := enc u) (by rw [encs_get, hu]; rfl) (by rw [enc_d]; rfl)
theorem opv_store_oterm {p x : Operand} {t id ver i e : Nat} {l : List Term} {u : Term} [S : Sz P t 4 true] (hp : evT T p = .oel id ver i 0) (hO : O[id]? = some (.buf e 4 (encs l) ver)) (hx : evT T x = .d (enc u)) (hi : i < l.length) :
    OpV P ro ⟨dst, .store t p x, ty, pos, af, g⟩ T O .unk (O.set id (.buf e 4 (encs (l.set i u)) ver)) := by
  have := opv_store_oel (P := P) (ro := ro) (T := T) (O := O) (dst := dst) (ty := ty) (pos := pos) (af := af) (g := g) (S := S) (y := enc u) hp hO hx rfl (by rw [encs_len]; exact hi) rfl (enc_cells u)
  rw [encs_map] at this ⊢
  rw [List.map_set]
  exact this
end
/-- Two neighbours, one for the other. -/
def swapT (l : List Term) (i j : Nat) (x y : Term) : List Term := (l.set i y).set j x
/-- An element goes down to its place, no lower than a. -/
def sink (c : Term → Term → Int) (a : Nat) : Nat → List Term → List Term
  | 0, l => l
  | j + 1, l => match l[j + 1]?, l[j]? with
    | some x, some y => if a < j + 1 ∧ c x y < 0 then sink c a j (swapT l (j + 1) j x y) else l
    | _, _ => l
def isortF (c : Term → Term → Int) (a : Nat) (n : Nat) (l : List Term) : List Term := (List.range n).foldl (fun l k => sink c a (a + 1 + k) l) l
theorem swapT_len (l : List Term) (i j : Nat) (x y : Term) : (swapT l i j x y).length = l.length := by simp [swapT]
theorem sink_len (c : Term → Term → Int) (a : Nat) : ∀ (j : Nat) (l : List Term), (sink c a j l).length = l.length
  | 0, l => rfl
  | j + 1, l => by
    rw [sink]
    split
    · split
      · rw [sink_len c a j, swapT_len]
      · rfl
    · rfl
theorem isortF_succ (c : Term → Term → Int) (a n : Nat) (l : List Term) : isortF c a (n + 1) l = sink c a (a + 1 + n) (isortF c a n l) := by unfold isortF; rw [List.range_succ, List.foldl_append]; rfl
theorem isortF_len (c : Term → Term → Int) (a : Nat) : ∀ (n : Nat) (l : List Term), (isortF c a n l).length = l.length
  | 0, l => rfl
  | n + 1, l => by rw [isortF_succ, sink_len, isortF_len c a n]
theorem sink_stop {c : Term → Term → Int} {a j : Nat} {l : List Term} (h : j ≤ a) : sink c a j l = l := by
  cases j with
  | zero => rfl
  | succ j =>
    rw [sink]
    split
    · rw [if_neg (fun hh => by omega)]
    · rfl
theorem sink_end {c : Term → Term → Int} {a j : Nat} {l : List Term} {x y : Term} (hx : l[j + 1]? = some x) (hy : l[j]? = some y) (h : ¬ c x y < 0) : sink c a (j + 1) l = l := by
  rw [sink, hx, hy]; exact if_neg (fun hh => h hh.2)
theorem sink_go {c : Term → Term → Int} {a j : Nat} {l : List Term} {x y : Term} (hx : l[j + 1]? = some x) (hy : l[j]? = some y) (ha : a < j + 1) (h : c x y < 0) : sink c a (j + 1) l = sink c a j (swapT l (j + 1) j x y) := by
  rw [sink, hx, hy]; exact if_pos ⟨ha, h⟩
theorem swapT_mem {l : List Term} {i j : Nat} {x y z : Term} (hx : x ∈ l) (hy : y ∈ l) (h : z ∈ swapT l i j x y) : z ∈ l := by
  unfold swapT at h
  rcases List.mem_or_eq_of_mem_set h with h | rfl
  · rcases List.mem_or_eq_of_mem_set h with h | rfl
    · exact h
    · exact hy
  · exact hx
theorem sink_mem {c : Term → Term → Int} {a : Nat} {z : Term} : ∀ (j : Nat) (l : List Term), z ∈ sink c a j l → z ∈ l
  | 0, l, h => h
  | j + 1, l, h => by
    rw [sink] at h
    split at h
    · rename_i x y hx hy
      split at h
      · exact swapT_mem (List.mem_of_getElem? hx) (List.mem_of_getElem? hy) (sink_mem j _ h)
      · exact h
    · exact h
theorem isortF_mem {c : Term → Term → Int} {a : Nat} {z : Term} : ∀ (n : Nat) (l : List Term), z ∈ isortF c a n l → z ∈ l
  | 0, l, h => h
  | n + 1, l, h => by rw [isortF_succ] at h; exact isortF_mem n l (sink_mem _ _ h)
end Go.Proofs.Ythpiggjclhnkcaa.AM
