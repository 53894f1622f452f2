/- OrderSorts: where what it reads is of bulk at most 1048576, the law returns true, and each argument reads behind the call as it read before. -/
import Derived.Test.YthpiggjclhnkcaaL7
import Derived.Test.YthpiggjclhnkcaaE0
import Derived.WalkKit
namespace Go.Proofs.Ythpiggjclhnkcaa.AM
open Go Go.ChangeShapes Go.WideShapes Go.ChangeAt Go.RowKit
set_option linter.unusedVariables false
set_option linter.unusedSimpArgs false
set_option maxRecDepth 100000
namespace OrderSorts
theorem tys : TermTys Try.prog 24 22 3 2 9 := ⟨⟨_, _, _, _, Try.underlying24, rfl, rfl, rfl, rfl, rfl, rfl, rfl, rfl⟩, Try.underlying22, Try.underlying3, Try.underlying2, Try.underlying9, by kernel_rfl, by kernel_rfl, by kernel_rfl, by kernel_rfl, by kernel_rfl⟩
theorem own : ownKnob Try.prog.godebug = none := by kernel_rfl
theorem laid : laidOutB Try.prog = true := by kernel_rfl
theorem rd : ∀ t ∈ Try.f9.params.toList, Try.prog.readableRec t = true ∧ t < Try.prog.types.size := by
  rw [Try.params9]
  intro t ht
  have hs : 23 ≤ Try.prog.types.size := of_decide_eq_true (by kernel_rfl)
  simp only [List.mem_cons, List.not_mem_nil, or_false] at ht
  rcases ht with rfl
  · exact ⟨by kernel_rfl, Nat.lt_of_lt_of_le (by decide) hs⟩
theorem contract (H : Type) (enc : TypeId × Value → H) (W : World) (base : Nat) (args : Array Value) (ds gs : List (DataW H)) (before : List MemPlace)
    (hval : ∀ (j : Nat) t v, Try.f9.params[j]? = some t → args[j]? = some v → Value.okWide Try.prog W .any base t v)
    (hW : DataW.Whole enc Try.prog Try.f9.params.toList Rows.orderSortsSpec.vars false W args.toList ds gs before) (hk : Rows.uptoSmall H (ds ++ gs) = true) :
    Calls Try.prog 9 args W fun e W' => ∃ v, e = .returned v ∧ Rows.orderSortsSpec.post enc Try.prog Try.f9 false true false false W args v W' := by
  have hW' := hW
  obtain ⟨p, q, hA0, hV, rfl, hfz, hnd⟩ := hW
  have hA : DataW.TrodAll enc Try.prog W 0 (fun _ => true) true Try.f9.params.toList args.toList ds p := hA0
  rw [Try.params9] at hA hval
  obtain ⟨v0, vs0, d0, ds0, p0, q0, hargs, rfl, rfl, h0, r0⟩ := trodAll_cons hA
  obtain ⟨rfl, rfl, rfl⟩ := trodAll_nil r0
  obtain rfl : args = #[v0] := by cases args; simp_all
  obtain ⟨rfl, rfl⟩ := trodVars_none hV
  have hbk : Rows.uptoBulkAll ([d0] ++ []) ≤ 1048576 := by simpa [Rows.uptoSmall] using hk
  simp only [List.append_nil, Rows.uptoBulkAll] at hbk
  obtain ⟨a0, hR0, hb0, hf0⟩ := open_terms tys (by have := hval 0 22 v0 rfl rfl; exact this) h0
  have hc := Fn.at (orderSorts_fn a0 (by omega) hf0) W [v0] ⟨_, _, rfl, hR0, rfl⟩
  refine hc.mono fun e W' ⟨u, F', he, hV, hB⟩ => ?_
  subst he
  rw [show u = .bool true from hV]
  exact ⟨_, rfl, post_true laid rd hW' rfl hB rfl Try.underlying4 rfl⟩

set_option maxRecDepth 100000 in
theorem lifted (os : Os) (started : os.Started) (H : Type) (enc : TypeId × Value → H) (F : Stop.Interp) :
    ReturnsInHanded {} Try.checked os 9 .any ((Rows.OpenSpec.upto Rows.orderSortsSpec).pre6 enc Try.prog Try.f9 Rows.orderSortsUptoRow.domain false) (((Rows.OpenSpec.upto Rows.orderSortsSpec).at F).post enc Try.prog Try.f9 false true false false) := by
  refine returnsInHanded_of_cond (C := Try.checked) (s := Rows.OpenSpec.upto Rows.orderSortsSpec) (k := Rows.uptoSmall) rfl own started (by kernel_rfl) Try.func9
    (OpenSpec.witness (enc := enc) (C := Try.checked) (s := Rows.OpenSpec.upto Rows.orderSortsSpec) (k := Rows.uptoSmall) rfl false ⟨#[], #[.slice none 0 0], []⟩ 8 (by kernel_rfl) (by kernel_rfl) (by kernel_rfl)
      (x := ([.nil], [], [])) (by kernel_rfl) rfl (by kernel_rfl)) ?_
  intro W base args ds gs before hval hW _ hk _
  exact contract H enc W base args ds gs before hval hW hk

theorem over : Rows.orderSortsUptoRow.holds Try.pinned (Rows.OpenSpec.upto Rows.orderSortsSpec) :=
  OpenClaim.holds_of_cond 9 Try.f9 rfl rfl rfl rfl rfl rfl rfl ⟨rfl, rfl, rfl, rfl, rfl⟩ rfl rfl rfl rfl rfl (by kernel_rfl) Try.func9 (by kernel_rfl)
    (of_decide_eq_true (by kernel_rfl)) (by unfold Func.isWrapper; first | (rw [if_pos (by decide +kernel)]; kernel_rfl) | (rw [if_neg (by decide +kernel)]; exact ⟨rfl, rfl⟩))
    (fun os started H enc _ F => lifted os started H enc F)

theorem proved : Rows.OrderSortsUptoSaid := over
end OrderSorts
end Go.Proofs.Ythpiggjclhnkcaa.AM
