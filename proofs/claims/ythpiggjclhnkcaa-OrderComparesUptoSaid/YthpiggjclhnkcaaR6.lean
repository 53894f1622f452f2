/- OrderCompares: where what it reads is of bulk at most 1048576, the law returns true, and each argument reads behind the call as it read before. -/
import Derived.Test.YthpiggjclhnkcaaL6
import Derived.Test.YthpiggjclhnkcaaE0
import Derived.WalkKit
namespace Go.Proofs.Ythpiggjclhnkcaa.AM
open Go Go.ChangeShapes Go.WideShapes Go.ChangeAt Go.RowKit
set_option linter.unusedVariables false
set_option linter.unusedSimpArgs false
set_option maxRecDepth 100000
namespace OrderCompares
theorem tys : TermTys Try.prog 24 22 3 2 9 := ⟨⟨_, _, _, _, Try.underlying24, rfl, rfl, rfl, rfl, rfl, rfl, rfl, rfl⟩, Try.underlying22, Try.underlying3, Try.underlying2, Try.underlying9, by kernel_rfl, by kernel_rfl, by kernel_rfl, by kernel_rfl, by kernel_rfl⟩
theorem own : ownKnob Try.prog.godebug = none := by kernel_rfl
theorem laid : laidOutB Try.prog = true := by kernel_rfl
theorem rd : ∀ t ∈ Try.f4.params.toList, Try.prog.readableRec t = true ∧ t < Try.prog.types.size := by
  rw [Try.params4]
  intro t ht
  have hs : 25 ≤ Try.prog.types.size := of_decide_eq_true (by kernel_rfl)
  simp only [List.mem_cons, List.not_mem_nil, or_false] at ht
  rcases ht with rfl | rfl | rfl
  · exact ⟨by kernel_rfl, Nat.lt_of_lt_of_le (by decide) hs⟩
  · exact ⟨by kernel_rfl, Nat.lt_of_lt_of_le (by decide) hs⟩
  · exact ⟨by kernel_rfl, Nat.lt_of_lt_of_le (by decide) hs⟩
theorem contract (H : Type) (enc : TypeId × Value → H) (W : World) (base : Nat) (args : Array Value) (ds gs : List (DataW H)) (before : List MemPlace)
    (hval : ∀ (j : Nat) t v, Try.f4.params[j]? = some t → args[j]? = some v → Value.okWide Try.prog W .any base t v)
    (hW : DataW.Whole enc Try.prog Try.f4.params.toList Rows.orderComparesSpec.vars false W args.toList ds gs before) (hk : Rows.uptoSmall H (ds ++ gs) = true) :
    Calls Try.prog 4 args W fun e W' => ∃ v, e = .returned v ∧ Rows.orderComparesSpec.post enc Try.prog Try.f4 false true false false W args v W' := by
  have hW' := hW
  obtain ⟨p, q, hA0, hV, rfl, hfz, hnd⟩ := hW
  have hA : DataW.TrodAll enc Try.prog W 0 (fun _ => true) true Try.f4.params.toList args.toList ds p := hA0
  rw [Try.params4] at hA hval
  obtain ⟨v0, vs0, d0, ds0, p0, q0, hargs, rfl, rfl, h0, r0⟩ := trodAll_cons hA
  obtain ⟨v1, vs1, d1, ds1, p1, q1, rfl, rfl, rfl, h1, r1⟩ := trodAll_cons r0
  obtain ⟨v2, vs2, d2, ds2, p2, q2, rfl, rfl, rfl, h2, r2⟩ := trodAll_cons r1
  obtain ⟨rfl, rfl, rfl⟩ := trodAll_nil r2
  obtain rfl : args = #[v0, v1, v2] := by cases args; simp_all
  obtain ⟨rfl, rfl⟩ := trodVars_none hV
  have hbk : Rows.uptoBulkAll ([d0, d1, d2] ++ []) ≤ 1048576 := by simpa [Rows.uptoSmall] using hk
  simp only [List.append_nil, Rows.uptoBulkAll] at hbk
  obtain ⟨a0, hR0, hb0, hf0⟩ := open_term tys (by have := hval 0 24 v0 rfl rfl; exact this) h0
  obtain ⟨a1, hR1, hb1, hf1⟩ := open_term tys (by have := hval 1 24 v1 rfl rfl; exact this) h1
  obtain ⟨a2, hR2, hb2, hf2⟩ := open_terms tys (by have := hval 2 22 v2 rfl rfl; exact this) h2
  have hc := Fn.at (orderCompares_fn a0 a1 a2 (by omega) hf0 (by omega) hf1 (by omega) hf2) W [v0, v1, v2] ⟨_, _, rfl, hR0, _, _, rfl, hR1, _, _, rfl, hR2, rfl⟩
  refine hc.mono fun e W' ⟨u, F', he, hV, hB⟩ => ?_
  subst he
  rw [show u = .bool true from hV]
  exact ⟨_, rfl, post_true laid rd hW' rfl hB rfl Try.underlying4 rfl⟩

set_option maxRecDepth 100000 in
theorem lifted (os : Os) (started : os.Started) (H : Type) (enc : TypeId × Value → H) (F : Stop.Interp) :
    ReturnsInHanded {} Try.checked os 4 .any ((Rows.OpenSpec.upto Rows.orderComparesSpec).pre6 enc Try.prog Try.f4 Rows.orderComparesUptoRow.domain false) (((Rows.OpenSpec.upto Rows.orderComparesSpec).at F).post enc Try.prog Try.f4 false true false false) := by
  refine returnsInHanded_of_cond (C := Try.checked) (s := Rows.OpenSpec.upto Rows.orderComparesSpec) (k := Rows.uptoSmall) rfl own started (by kernel_rfl) Try.func4
    (OpenSpec.witness (enc := enc) (C := Try.checked) (s := Rows.OpenSpec.upto Rows.orderComparesSpec) (k := Rows.uptoSmall) rfl false ⟨#[], #[.agg #[.int .i64 0, .int .i64 0, .string ⟨#[]⟩, .slice none 0 0], .agg #[.int .i64 0, .int .i64 0, .string ⟨#[]⟩, .slice none 0 0], .slice none 0 0], []⟩ 8 (by kernel_rfl) (by kernel_rfl) (by kernel_rfl)
      (x := ([.agg [.lit (.int .i64 0), .lit (.int .i64 0), .lit (.string []), .nil], .agg [.lit (.int .i64 0), .lit (.int .i64 0), .lit (.string []), .nil], .nil], [], [])) (by kernel_rfl) rfl (by kernel_rfl)) ?_
  intro W base args ds gs before hval hW _ hk _
  exact contract H enc W base args ds gs before hval hW hk

theorem over : Rows.orderComparesUptoRow.holds Try.pinned (Rows.OpenSpec.upto Rows.orderComparesSpec) :=
  OpenClaim.holds_of_cond 4 Try.f4 rfl rfl rfl rfl rfl rfl rfl ⟨rfl, rfl, rfl, rfl, rfl⟩ rfl rfl rfl rfl rfl (by kernel_rfl) Try.func4 (by kernel_rfl)
    (of_decide_eq_true (by kernel_rfl)) (by unfold Func.isWrapper; first | (rw [if_pos (by decide +kernel)]; kernel_rfl) | (rw [if_neg (by decide +kernel)]; exact ⟨rfl, rfl⟩))
    (fun os started H enc _ F => lifted os started H enc F)

theorem proved : Rows.OrderComparesUptoSaid := over
end OrderCompares
end Go.Proofs.Ythpiggjclhnkcaa.AM
