/- Lists of things that are no terms, as they are read. -/
import Derived.Test.YtljmkgjemmoegaaE0
import Derived.Test.YtljmkgjemmoegaaS4
namespace Go.Proofs.Ytljmkgjemmoegaa.AM
open Go Go.ChangeShapes Go.WideShapes Go.RowKit
set_option linter.unusedVariables false
set_option linter.unusedSimpArgs false
section
variable {H : Type} {en : TypeId × Value → H} {P : Program} {W : World} {sp : Nat → Bool}
def sumN {E : Type} (f : E → Nat) : List E → Nat
  | [] => 0
  | x :: l => f x + sumN f l
theorem sumN_mem {E : Type} {f : E → Nat} {x : E} : ∀ {l : List E}, x ∈ l → f x ≤ sumN f l
  | y :: l, h => by
    simp only [sumN]
    rcases List.mem_cons.1 h with rfl | h
    · omega
    · have := sumN_mem (f := f) h; omega
theorem sumN_len {E : Type} {f : E → Nat} (hf : ∀ x, 1 ≤ f x) : ∀ (l : List E), l.length ≤ sumN f l
  | [] => Nat.le_refl _
  | x :: l => by have := sumN_len hf l; have := hf x; simp only [sumN, List.length_cons]; omega

/-- How an element reads. -/
def ElemOk (en : TypeId × Value → H) (P : Program) (W : World) (sp : Nat → Bool) {E : Type} (encE : E → D) (bulkE : E → Nat) (okE : E → Prop) (te sz n : Nat) : Prop :=
  ∀ (cs : List Value) (x : DataW H × List MemPlace), DataW.trod en P W 0 sp true n te cs = some x → ∃ y : E, D.RC W (fun b => b < W.heap.size) (encE y).cells cs ∧ cs.length = sz ∧ bulkE y ≤ Rows.uptoBulk x.1 ∧ okE y
theorem list_of_trod {E : Type} {encE : E → D} {bulkE : E → Nat} {okE : E → Prop} {te tl sz : Nat} (hL : P.underlying tl = some (.slice te)) (hc : P.cellsOf te = sz) (h0 : 0 < sz) {n : Nat} (he : ∀ m, ElemOk en P W sp encE bulkE okE te sz m)
    {cs : List Value} {x : DataW H × List MemPlace} (h : DataW.trod en P W 0 sp true n tl cs = some x) : ∃ (l : List E) (v : Value), cs = [v] ∧ D.R W (fun b => b < W.heap.size) (.list (l.map encE)) v ∧ sumN bulkE l + 1 ≤ Rows.uptoBulk x.1 ∧ ∀ y ∈ l, okE y := by
  rcases DataW.trod_slice hL h with ⟨rfl, rfl⟩ | ⟨a, len, cap, elems, rest, m, hm, rfl, rfl, hb, hlc, hcap, hel, hget, _, _⟩
  · exact ⟨[], _, rfl, ⟨_, _, 0, rfl, Nat.le_refl _, (fun h => absurd rfl h), trivial⟩, by simp [sumN, Rows.uptoBulk], fun y h => by cases h⟩
  · have hblk : 0 < len → a.block < W.heap.size ∧ a.spot = none := by
      intro h1
      have hg := hget 0 h1
      rw [show elems[0]? = some elems[0] from List.getElem?_eq_getElem (by omega), Option.bind_eq_some_iff] at hg
      obtain ⟨cs, hcs, htr⟩ := hg
      obtain ⟨y, q1, q2, q3, q4⟩ := he m _ _ htr
      rw [hc] at hcs
      obtain ⟨hcl, hcell⟩ := cells_get hcs
      have := cell_lt (hcell 0 _ (List.getElem?_eq_getElem (by omega)))
      have e : (a.add (0 * sz)).add 0 = a := by simp [Addr.add]
      rw [e] at this
      exact this
    have key : ∀ (k i : Nat), i + k = len → ∃ l : List E, l.length = k ∧ D.RE W (fun b => b < W.heap.size) (fun j => (some a).bind fun ad => W.cell? (ad.add j)) sz i (l.map encE) ∧ sumN bulkE l ≤ Rows.uptoBulkAll ((elems.drop i).map (·.1)) ∧ ∀ y ∈ l, okE y := by
      intro k
      induction k with
      | zero => intro i hi; exact ⟨[], rfl, trivial, by simp [sumN], fun y h => by cases h⟩
      | succ k ihk =>
        intro i hi
        obtain ⟨l, h1, h2, h3, h4⟩ := ihk (i + 1) (by omega)
        have hblk := hblk (by omega)
        have hil : i < elems.length := by omega
        have hg := hget i (by omega)
        rw [show elems[i]? = some elems[i] from List.getElem?_eq_getElem hil, Option.bind_eq_some_iff] at hg
        obtain ⟨cs, hcs, htr⟩ := hg
        obtain ⟨y, q1, q2, q3, q4⟩ := he m _ _ htr
        rw [hc] at hcs
        obtain ⟨hcl, hcell⟩ := cells_get hcs
        obtain ⟨v, hv1, hv2⟩ := R_of_RC q1
        refine ⟨y :: l, by simp [h1], ⟨⟨v, hv1, ?_, ?_⟩, h2⟩, ?_, fun z hz => (List.mem_cons.1 hz).elim (fun e => e ▸ q4) (h4 z)⟩
        · rw [← Array.length_toList, hv2, q2]
        · intro j u hj
          have := hcell j u (by rw [← hv2]; simpa using hj)
          rw [add_add' a hblk.2] at this
          simpa using this
        · rw [List.drop_eq_getElem_cons hil]
          simp only [List.map_cons, Rows.uptoBulkAll, sumN]
          omega
    obtain ⟨l, h1, h2, h3, h4⟩ := key len 0 (by omega)
    refine ⟨l, _, rfl, ⟨some a, cap, sz, by rw [List.length_map, h1], by rw [List.length_map, h1]; exact hlc, fun hne => ⟨a, rfl, ?_⟩, h2⟩, ?_, h4⟩
    · have hpos : 0 < len := by
        cases len with
        | zero => cases l with | nil => exact absurd rfl hne | cons x l => simp at h1
        | succ m => exact Nat.succ_pos m
      exact ⟨(hblk hpos).2, (hblk hpos).1⟩
    · simp only [List.drop_zero] at h3
      simp only [Rows.uptoBulk]
      omega
theorem open_list {E : Type} {encE : E → D} {bulkE : E → Nat} {okE : E → Prop} {te tl sz : Nat} (hL : P.underlying tl = some (.slice te)) (hc : P.cellsOf te = sz) (h0 : 0 < sz) (he : ∀ m, ElemOk en P W sp encE bulkE okE te sz m)
    {v : Value} {d : DataW H} {ps : List MemPlace} (hval : Value.okWide P W .any 0 tl v) (h : DataW.Trod en P W 0 sp true tl v d ps) : ∃ l : List E, D.R W (fun b => b < W.heap.size) (.list (l.map encE)) v ∧ sumN bulkE l + 1 ≤ Rows.uptoBulk d ∧ ∀ y ∈ l, okE y := by
  obtain ⟨a, len, cap, rfl⟩ := okWide_slice hL hval
  obtain ⟨n, hn⟩ := h
  obtain ⟨l, v', h1, h2, h3, h4⟩ := list_of_trod hL hc h0 he hn
  simp only [Value.cells, List.cons.injEq, and_true] at h1
  subst h1
  exact ⟨l, h2, h3, h4⟩
/-- Whole numbers. -/
theorem elem_int {k : IntKind} {te : Nat} (ht : P.underlying te = some (.int k)) (m : Nat) : ElemOk en P W sp (D.int k) (fun _ => 1) (fun n => (Lit.int k n).wf = true) te 1 m := by
  intro cs x h
  obtain ⟨n, rfl, rfl, hw⟩ := DataW.trod_int ht h
  exact ⟨n, ⟨_, _, rfl, rfl, rfl, rfl⟩, rfl, by simp [Rows.uptoBulk], hw⟩
/-- A thing done, and a bound one: numbers ahead of a term. -/
theorem elem_deed {tD tT tL tK tN tS tI : Nat} (Y : TermTys P tT tL tK tN tS) (hI : P.underlying tI = some (.int .i64)) (cI : P.cellsOf tI = 1) (cD : P.cellsOf tD = 6)
    (hu : ∃ f0 f1 f2 : Field, P.underlying tD = some (.struct #[f0, f1, f2]) ∧ f0.offset = 0 ∧ f1.offset = 1 ∧ f2.offset = 2 ∧ f0.type = tI ∧ f1.type = tI ∧ f2.type = tT) (m : Nat) :
    ElemOk en P W sp encDeed (fun d => d.t.bulk) (fun d => d.t.fits) tD 6 m := by
  intro cs x h
  obtain ⟨f0, f1, f2, hu, o0, o1, o2, t0, t1, t2⟩ := hu
  obtain ⟨xs, m, hm, rfl, hl, hxl, hf⟩ := DataW.trod_struct hu h
  have hl6 : cs.length = 6 := by rw [hl, cD]
  match cs, hl6 with
  | [c0, c1, c2, c3, c4, c5], _ =>
    have e0 := hf 0 f0 rfl
    have e1 := hf 1 f1 rfl
    have e2 := hf 2 f2 rfl
    rw [o0, t0, cI] at e0
    rw [o1, t1, cI] at e1
    rw [o2, t2, Y.cT] at e2
    have hxl3 : xs.length = 3 := by rw [hxl]; rfl
    match xs, hxl3 with
    | [x0, x1, x2], _ =>
      obtain ⟨k, h0, rfl, w0⟩ := DataW.trod_int hI e0
      obtain ⟨n, h1, rfl, w1⟩ := DataW.trod_int hI e1
      obtain ⟨t, hR, _, hb, hft⟩ := (term_of_trod Y m).1 _ _ e2
      simp only [List.drop_zero, List.drop_succ_cons, List.take_succ_cons, List.take_zero, List.cons.injEq, and_true] at h0 h1 hR
      subst h0; subst h1
      refine ⟨⟨k, n, t⟩, ⟨_, _, rfl, rfl, rfl, _, _, rfl, rfl, rfl, hR⟩, rfl, ?_, hft⟩
      simp only [List.map_cons, List.map_nil, Rows.uptoBulk, Rows.uptoBulkAll]
      omega
theorem elem_pair {tD tT tL tK tN tS tI : Nat} (Y : TermTys P tT tL tK tN tS) (hI : P.underlying tI = some (.int .i64)) (cI : P.cellsOf tI = 1) (cD : P.cellsOf tD = 5)
    (hu : ∃ f0 f1 : Field, P.underlying tD = some (.struct #[f0, f1]) ∧ f0.offset = 0 ∧ f1.offset = 1 ∧ f0.type = tI ∧ f1.type = tT) (m : Nat) :
    ElemOk en P W sp encBind (fun d => d.2.bulk) (fun d => d.2.fits) tD 5 m := by
  intro cs x h
  obtain ⟨f0, f1, hu, o0, o1, t0, t1⟩ := hu
  obtain ⟨xs, m, hm, rfl, hl, hxl, hf⟩ := DataW.trod_struct hu h
  have hl6 : cs.length = 5 := by rw [hl, cD]
  match cs, hl6 with
  | [c0, c1, c2, c3, c4], _ =>
    have e0 := hf 0 f0 rfl
    have e1 := hf 1 f1 rfl
    rw [o0, t0, cI] at e0
    rw [o1, t1, Y.cT] at e1
    have hxl3 : xs.length = 2 := by rw [hxl]; rfl
    match xs, hxl3 with
    | [x0, x1], _ =>
      obtain ⟨k, h0, rfl, w0⟩ := DataW.trod_int hI e0
      obtain ⟨t, hR, _, hb, hft⟩ := (term_of_trod Y m).1 _ _ e1
      simp only [List.drop_zero, List.drop_succ_cons, List.take_succ_cons, List.take_zero, List.cons.injEq, and_true] at h0 hR
      subst h0
      refine ⟨(k, t), ⟨_, _, rfl, rfl, rfl, hR⟩, rfl, ?_, hft⟩
      simp only [List.map_cons, List.map_nil, Rows.uptoBulk, Rows.uptoBulkAll]
      omega
end
end Go.Proofs.Ytljmkgjemmoegaa.AM
