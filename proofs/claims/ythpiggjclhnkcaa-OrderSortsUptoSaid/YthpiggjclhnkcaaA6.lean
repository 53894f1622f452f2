/- A rule for each operation: slices' literals, numbers, comparisons. -/
import Derived.Test.YthpiggjclhnkcaaA5
namespace Go.Proofs.Ythpiggjclhnkcaa.AM
open Go
set_option linter.unusedVariables false
set_option linter.unusedSimpArgs false
section
variable {P : Program} {ro : Option Nat} {T : Nat → AV} {O : List AObj} {dst : Option Tmp} {ty : TypeId} {pos : String} {af : Array Edge} {g : Option (Nat × Bool)}

theorem RE_mk {w : World} {F : Nat → Prop} {get : Nat → Option Value} {sz : Nat} : ∀ (xs : List D) (i : Nat),
    (∀ (j : Nat) (x : D), xs[j]? = some x → ∃ v, x.R w F v ∧ v.cells.size = sz ∧ ∀ (t : Nat) (u : Value), v.cells[t]? = some u → get ((i + j) * sz + t) = some u) → D.RE w F get sz i xs
  | [], i, _ => trivial
  | x :: xs, i, h => ⟨h 0 x rfl, RE_mk xs (i + 1) fun j y hj => by
      obtain ⟨v, h1, h2, h3⟩ := h (j + 1) y hj
      exact ⟨v, h1, h2, fun t u ht => by rw [show i + 1 + j = i + (j + 1) by omega]; exact h3 t u ht⟩⟩

def asD : AV → Option D
  | .d x => some x
  | .nil0 => some (.list [])
  | _ => none
theorem asD_R {w : World} {F : Nat → Prop} {γ : List GO} {x : AV} {y : D} {v : Value} (h : asD x = some y) (hV : x.V w F γ O v) : y.R w F v := by
  cases x with
  | d x => cases h; exact hV
  | nil0 => cases h; exact nil0_R hV
  | _ => cases h
def partsD : Nat → List (Nat × AV) → Option (List D)
  | _, [] => some []
  | n, (i, x) :: r => bif Nat.beq i n then (match asD x, partsD (n + 1) r with | some y, some ys => some (y :: ys) | _, _ => none) else none

theorem fillS (size : Nat) : ∀ (vals : List (Nat × Value)) (n : Nat) (arr : Array Value), (∀ (j : Nat) (q : Nat × Value), vals[j]? = some q → q.1 = n + j ∧ q.2.cells.size = size) → (n + vals.length) * size ≤ arr.size →
    ∃ rs : Array Value, Instr.fill (fun i => some (i * size, size)) arr vals = some rs ∧ rs.size = arr.size ∧ (∀ p, p < n * size → rs[p]? = arr[p]?) ∧
      ∀ (j : Nat) (q : Nat × Value), vals[j]? = some q → ∀ (t : Nat) (u : Value), q.2.cells[t]? = some u → rs[(n + j) * size + t]? = some u
  | [], n, arr, _, _ => ⟨arr, rfl, rfl, fun _ _ => rfl, fun j q h => by cases h⟩
  | (i, v) :: vals, n, arr, hv, hn => by
    obtain ⟨h1, h2⟩ := hv 0 _ rfl
    simp only [Nat.add_zero] at h1 h2
    subst h1
    have hle : i * size + size ≤ arr.size := by
      have : (i + 1) * size ≤ (i + (vals.length + 1)) * size := Nat.mul_le_mul_right _ (by omega)
      simp only [List.length_cons] at hn
      rw [Nat.add_mul, Nat.one_mul] at this
      omega
    have hfold := foldl_set (i * size) v.cells.toList 0 arr (by simp; omega)
    simp only [Nat.add_zero] at hfold
    obtain ⟨arr', harr'⟩ : ∃ arr' : Array Value, arr' = (arr.toList.take (i * size) ++ v.cells.toList ++ arr.toList.drop (i * size + v.cells.toList.length)).toArray := ⟨_, rfl⟩
    have hs' : arr'.size = arr.size := by rw [harr']; simp; omega
    obtain ⟨rs, e1, e2, e3, e4⟩ := fillS size vals (i + 1) arr' (fun j q hj => by obtain ⟨k1, k2⟩ := hv (j + 1) q hj; exact ⟨by omega, k2⟩) (by rw [hs']; simp only [List.length_cons] at hn; rw [show i + 1 + vals.length = i + (vals.length + 1) by omega]; exact hn)
    have hat : ∀ p, p < (i + 1) * size → rs[p]? = (arr.toList.take (i * size) ++ v.cells.toList)[p]? := fun p hp => by
      rw [e3 p hp, harr', List.getElem?_toArray, List.getElem?_append_left]
      simp; rw [Nat.add_mul, Nat.one_mul] at hp; omega
    refine ⟨rs, ?_, e2.trans hs', fun p hp => ?_, fun j q hj t u ht => ?_⟩
    · simp only [Instr.fill]
      rw [if_neg (by simp [h2]; omega), ← Array.foldl_toList, Array.toList_zipIdx, hfold, ← harr']
      exact e1
    · rw [hat p (by rw [Nat.add_mul]; omega), List.getElem?_append_left (by simp; omega), List.getElem?_take, if_pos hp]
      simp
    · cases j with
      | zero =>
        cases hj
        have htl : t < v.cells.size := (Array.getElem?_eq_some_iff.1 ht).1
        rw [Nat.add_zero, hat _ (by rw [Nat.add_mul]; omega), List.getElem?_append_right (by simp; omega)]
        have hm : min (i * size) arr.size = i * size := by omega
        simp only [List.length_take, Array.length_toList, hm, Nat.add_sub_cancel_left]
        simpa using ht
      | succ j => rw [show i + (j + 1) = i + 1 + j by omega]; exact e4 j q hj t u ht

theorem partsD_spec {w : World} {F : Nat → Prop} {γ : List GO} {T : Nat → AV} {a : Act} : ∀ (parts : List (Nat × Operand)) (n : Nat) (xs : List D), (∀ p ∈ parts, (evT T p.2).V w F γ O (a.eval p.2)) → partsD n (parts.map fun p => (p.1, evT T p.2)) = some xs →
    xs.length = parts.length ∧ ∀ (j : Nat) (p : Nat × Operand) (x : D), parts[j]? = some p → xs[j]? = some x → p.1 = n + j ∧ x.R w F (a.eval p.2)
  | [], n, xs, _, h => by cases h; exact ⟨rfl, fun j p x h => by cases h⟩
  | (i, o) :: parts, n, xs, hV, h => by
    simp only [List.map_cons, partsD] at h
    cases hi : Nat.beq i n with
    | false => simp [hi] at h
    | true =>
      simp only [hi, cond_true] at h
      split at h
      · rename_i y ys hy hys
        cases h
        obtain ⟨h1, h2⟩ := partsD_spec parts (n + 1) ys (fun p hp => hV p (List.mem_cons_of_mem _ hp)) hys
        have hin : i = n := Nat.eq_of_beq_eq_true hi
        refine ⟨by simp [h1], fun j p x hp hx => ?_⟩
        cases j with
        | zero => cases hp; cases hx; exact ⟨hin, asD_R hy (hV _ (List.mem_cons_self))⟩
        | succ j => obtain ⟨k1, k2⟩ := h2 j p x hp hx; exact ⟨by omega, k2⟩
      · cases h

theorem opv_buildSlice {t e sz len : Nat} {parts : Array (Nat × Operand)} {xs : List D} {z : List AV} [S : Slc P t e sz] [Z : Ze P e z] (h : partsD 0 (parts.toList.map fun p => (p.1, evT T p.2)) = some xs)
    (hl : Nat.beq xs.length len = true) (hsz : xs.all (fun x => Nat.beq x.cells.length sz) = true) (hbig : Nat.ble (len * sz) (2 ^ 24) = true) :
    OpV P ro ⟨dst, .buildSlice t len parts, ty, pos, af, g⟩ T O (.d (.list xs)) O :=
  OpV.of_run (fun c h => by cases h) fun w F γ a I H => by
    have hl' : xs.length = len := Nat.eq_of_beq_eq_true hl
    have hbig' : len * sz ≤ 2 ^ 24 := Nat.le_of_ble_eq_true hbig
    obtain ⟨zv, hz, he, ho⟩ := Z.h
    obtain ⟨ie, hi, hz⟩ := Option.bind_eq_some_iff.1 hz
    obtain ⟨hpl, hps⟩ := partsD_spec (a := a) parts.toList 0 xs (fun p hp => H.at (x := p.2) (by simp only [Op.operands]; simp only [List.mem_toArray, List.mem_map]; exact ⟨p, hp, rfl⟩) rfl) h
    have hplen : parts.toList.length = len := by omega
    obtain ⟨arr, harr⟩ : ∃ arr : Array Value, arr.size = len * sz ∧ arr = (Array.range (len * sz)).map ((if len * sz = 0 then #[] else zv.cells)[· % (if len * sz = 0 then #[] else zv.cells).size]!) := ⟨_, by simp, rfl⟩
    have hcell : ∀ (j : Nat) (p : Nat × Operand), parts.toList[j]? = some p → ∃ x, xs[j]? = some x ∧ p.1 = 0 + j ∧ x.R w F (a.eval p.2) ∧ (a.eval p.2).cells.size = sz := fun j p hp => by
      have hj : j < xs.length := by have := (List.getElem?_eq_some_iff.1 hp).1; omega
      obtain ⟨k1, k2⟩ := hps j p _ hp (List.getElem?_eq_getElem hj)
      refine ⟨_, List.getElem?_eq_getElem hj, k1, k2, ?_⟩
      have := RC_length _ _ (RC_cells' k2)
      have h3 := List.all_eq_true.1 hsz _ (List.getElem_mem hj)
      have h4 := Nat.eq_of_beq_eq_true h3
      simpa [h4] using this
    obtain ⟨rs, e1, e2, _, e4⟩ := fillS sz (parts.toList.map fun p => (p.1, a.eval p.2)) 0 arr (fun j q hq => by
      rw [List.getElem?_map] at hq
      cases hp : parts.toList[j]? with
      | none => simp [hp] at hq
      | some p => simp only [hp, Option.map_some, Option.some.injEq] at hq; subst hq; obtain ⟨x, _, k1, _, k3⟩ := hcell j p hp; exact ⟨k1, k3⟩) (by rw [harr.1, List.length_map, hplen]; simp)
    have hrun : (execOp a.eval ⟨dst, .buildSlice t len parts, ty, pos, af, g⟩).run P w = .ok (.value (.slice (some ⟨w.heap.size, 0, none⟩) len len)) (w.alloc (.cells rs e)) := by
      have e1' : Instr.fill (fun i => some (i * sz, sz)) ((Array.range (len * sz)).map ((if len * sz = 0 then #[] else zv.cells)[· % (if len * sz = 0 then #[] else zv.cells).size]!)) (parts.map fun x => (x.1, a.eval x.2)).toList = some rs := by
        rw [← harr.2]; simpa using e1
      simp only [execOp, Instr.buildSlice, Sem.run_bind, run_underlying S.und, Result.andThen_ok, run_size_of S.info]
      rw [if_neg (by omega)]
      by_cases h0 : len * sz = 0
      · simp only [h0, if_true] at e1' ⊢
        simp only [Sem.run_bind, Sem.run_pure, Result.andThen_ok]
        rw [e1']
        simp [newRow]
      · simp only [h0, if_false] at e1' ⊢
        simp only [Sem.run_bind, zeroValue, typeInfo, run_program, Result.andThen_ok, hi, hz, Sem.run_pure]
        rw [e1']
        simp [newRow]
    obtain ⟨I', E⟩ := I.grow (w' := w.alloc (.cells rs e)) (F' := fun b => F b ∨ b = w.heap.size) rfl rfl rfl (by simp) (fun b hb => heap_alloc_old w _ hb) (fun b hb => .inl hb) (fun b hb hf => hf.resolve_right (by omega))
      (fun b hb => by rcases hb with hb | rfl; · have := I.fr b hb; simp; omega
                      · simp)
    refine ⟨_, _, _, γ, .inl hrun, ⟨some ⟨w.heap.size, 0, none⟩, len, sz, by rw [hl'], by omega, fun _ => ⟨_, rfl, rfl, .inr rfl⟩, RE_mk xs 0 fun j x hx => ?_⟩, I', E⟩
    have hj : j < parts.toList.length := by have := (List.getElem?_eq_some_iff.1 hx).1; omega
    obtain ⟨x', k0, k1, k2, k3⟩ := hcell j _ (List.getElem?_eq_getElem hj)
    rw [hx] at k0; cases k0
    refine ⟨_, D.R_evo I E k2, k3, fun t u ht => ?_⟩
    have := e4 j (parts.toList[j].1, a.eval parts.toList[j].2) (by rw [List.getElem?_map, List.getElem?_eq_getElem hj]; rfl) t u ht
    simp only [Option.bind_some, add_lit, Nat.zero_add] at this ⊢
    have hh : (w.alloc (.cells rs e)).heap[w.heap.size]? = some (.cells rs e (0, 0)) := heap_alloc_new w _
    simp only [World.cell?, hh, Option.isSome_none]
    simpa using this
theorem opv_buildSlice0 {t e sz : Nat} {parts : Array (Nat × Operand)} [S : Slc P t e sz] (h : parts.toList = []) :
    OpV P ro ⟨dst, .buildSlice t 0 parts, ty, pos, af, g⟩ T O .nil0 O :=
  OpV.of_run (fun c h => by cases h) fun w F γ a I H => by
    obtain ⟨I', E⟩ := I.grow (w' := w.alloc (.cells #[] e)) (F' := F) rfl rfl rfl (by simp) (fun b hb => heap_alloc_old w _ hb) (fun b hb => hb) (fun b hb hf => hf) (fun b hb => by have := I.fr b hb; simp; omega)
    refine ⟨.slice (some ⟨w.heap.size, 0, none⟩) 0 0, _, F, γ, .inl ?_, ⟨_, rfl⟩, I', E⟩
    have hp : parts = #[] := by cases parts; simp_all
    subst hp
    simp [execOp, Instr.buildSlice, run_underlying S.und, run_size_of S.info, Instr.fill, newRow]
    rw [show Array.range 0 = #[] by simp, Array.map_empty]
end
end Go.Proofs.Ythpiggjclhnkcaa.AM
