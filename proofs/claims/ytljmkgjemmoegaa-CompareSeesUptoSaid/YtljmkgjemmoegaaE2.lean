/- A number and pairs of numbers, as they are read. -/
import Derived.Test.YtljmkgjemmoegaaE1
import Derived.Test.YtljmkgjemmoegaaY3
namespace Go.Proofs.Ytljmkgjemmoegaa.AM
open Go Go.ChangeShapes Go.WideShapes Go.RowKit
set_option linter.unusedVariables false
set_option linter.unusedSimpArgs false
section
variable {H : Type} {en : TypeId × Value → H} {P : Program} {W : World} {sp : Nat → Bool}
theorem elem_arr2 {tA tI : Nat} (hA : P.underlying tA = some (.array 2 tI)) (hI : P.underlying tI = some (.int .i64)) (cI : P.cellsOf tI = 1) (cA : P.cellsOf tA = 2) (m : Nat) :
    ElemOk en P W sp encP (fun _ => 1) (fun _ => True) tA 2 m := by
  intro cs x h
  obtain ⟨xs, m, hm, rfl, hl, hxl, hf⟩ := DataW.trod_array hA h
  have hl2 : cs.length = 2 := by rw [hl, cA]
  match cs, hl2 with
  | [c0, c1], _ =>
    match xs, hxl with
    | [x0, x1], _ =>
      have e0 := hf 0 (by decide)
      have e1 := hf 1 (by decide)
      rw [cI] at e0 e1
      obtain ⟨k, h0, rfl, w0⟩ := DataW.trod_int hI e0
      obtain ⟨n, h1, rfl, w1⟩ := DataW.trod_int hI e1
      simp only [Nat.zero_mul, Nat.one_mul, List.drop_zero, List.drop_succ_cons, List.take_succ_cons, List.take_zero, List.cons.injEq, and_true] at h0 h1
      subst h0; subst h1
      exact ⟨(k, n), ⟨_, _, rfl, rfl, rfl, _, _, rfl, rfl, rfl, rfl⟩, rfl, one_le_bulk _, trivial⟩
theorem open_ord {tO tL tA tI : Nat} (hO : ∃ f0 f1 : Field, P.underlying tO = some (.struct #[f0, f1]) ∧ f0.offset = 0 ∧ f1.offset = 1 ∧ f0.type = tI ∧ f1.type = tL) (hL : P.underlying tL = some (.slice tA)) (hA : P.underlying tA = some (.array 2 tI)) (hI : P.underlying tI = some (.int .i64)) (cI : P.cellsOf tI = 1) (cA : P.cellsOf tA = 2) (cL : P.cellsOf tL = 1) (cO : P.cellsOf tO = 2)
    {v : Value} {d : DataW H} {ps : List MemPlace} (hval : Value.okWide P W .any 0 tO v) (h : DataW.Trod en P W 0 sp true tO v d ps) : ∃ o : Int × List (Int × Int), D.R W (fun b => b < W.heap.size) (encOrd o) v ∧ o.2.length ≤ Rows.uptoBulk d ∧ True := by
  obtain ⟨f0, f1, hu, o0, o1, t0, t1⟩ := hO
  obtain ⟨cs, rfl, hsz⟩ := okWide_struct hu hval
  obtain ⟨n, hn⟩ := h
  obtain ⟨y0, y1, m, hx, hl, e0, e1⟩ := trod_struct2 hu hn
  cases hx
  rw [o0, t0, cI] at e0
  rw [o1, t1, cL] at e1
  obtain ⟨k, h0, rfl, w0⟩ := DataW.trod_int hI e0
  obtain ⟨l, v', h1, h2, h3, h4⟩ := list_of_trod hL cA (by decide) (elem_arr2 hA hI cI cA) e1
  have hl2 : (Value.agg cs).cells.toList.length = 2 := by rw [hl, cO]
  match hc : (Value.agg cs).cells.toList, hl2 with
  | [c0, c1], _ =>
    rw [hc] at h0 h1
    simp only [List.drop_zero, List.drop_succ_cons, List.take_succ_cons, List.take_zero, List.cons.injEq, and_true] at h0 h1
    subst h0; subst h1
    refine ⟨(k, l), ⟨_, ?_, ⟨_, _, rfl, rfl, rfl, _, _, rfl, rfl, h2, rfl⟩⟩, ?_, trivial⟩
    · rw [← hc]; rfl
    · simp only [Rows.uptoBulk, Rows.uptoBulkAll]
      have hk : ∀ l : List (Int × Int), sumN (fun _ => 1) l = l.length := by
        intro l
        induction l with
        | nil => rfl
        | cons x l ih => simp only [sumN, ih, List.length_cons]; omega
      have := hk l
      show l.length ≤ _
      omega
end
end Go.Proofs.Ytljmkgjemmoegaa.AM
