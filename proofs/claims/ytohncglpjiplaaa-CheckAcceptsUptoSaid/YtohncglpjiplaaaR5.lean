/- CheckAccepts: where what it reads is of bulk at most 1048576, the law returns true, and each argument reads behind the call as it read before. -/
import Derived.Test.YtohncglpjiplaaaL5
import Derived.Test.YtohncglpjiplaaaE0
import Derived.WalkKit
namespace Go.Proofs.Ytohncglpjiplaaa.AM
open Go Go.ChangeShapes Go.WideShapes Go.ChangeAt Go.RowKit
set_option linter.unusedVariables false
set_option linter.unusedSimpArgs false
set_option maxRecDepth 100000
namespace CheckAccepts
theorem tys : TermTys Try.prog 47 22 3 2 9 := ⟨⟨_, _, _, _, Try.underlying47, rfl, rfl, rfl, rfl, rfl, rfl, rfl, rfl⟩, Try.underlying22, Try.underlying3, Try.underlying2, Try.underlying9, by kernel_rfl, by kernel_rfl, by kernel_rfl, by kernel_rfl, by kernel_rfl⟩
theorem own : ownKnob Try.prog.godebug = none := by kernel_rfl
theorem laid : laidOutB Try.prog = true := by kernel_rfl
theorem rd : ∀ t ∈ Try.f3.params.toList, Try.prog.readableRec t = true ∧ t < Try.prog.types.size := by
  rw [Try.params3]
  intro t ht
  have hs : 23 ≤ Try.prog.types.size := of_decide_eq_true (by kernel_rfl)
  simp only [List.mem_cons, List.not_mem_nil, or_false] at ht
  rcases ht with rfl | rfl | rfl | rfl
  · exact ⟨by kernel_rfl, Nat.lt_of_lt_of_le (by decide) hs⟩
  · exact ⟨by kernel_rfl, Nat.lt_of_lt_of_le (by decide) hs⟩
  · exact ⟨by kernel_rfl, Nat.lt_of_lt_of_le (by decide) hs⟩
  · exact ⟨by kernel_rfl, Nat.lt_of_lt_of_le (by decide) hs⟩
theorem contract (H : Type) (enc : TypeId × Value → H) (W : World) (base : Nat) (args : Array Value) (ds gs : List (DataW H)) (before : List MemPlace)
    (hval : ∀ (j : Nat) t v, Try.f3.params[j]? = some t → args[j]? = some v → Value.okWide Try.prog W .any base t v)
    (hW : DataW.Whole enc Try.prog Try.f3.params.toList Rows.checkAcceptsSpec.vars false W args.toList ds gs before) (hk : Rows.uptoSmall H (ds ++ gs) = true) :
    Calls Try.prog 3 args W fun e W' => ∃ v, e = .returned v ∧ Rows.checkAcceptsSpec.post enc Try.prog Try.f3 false true false false W args v W' := by
  have hW' := hW
  obtain ⟨p, q, hA0, hV, rfl, hfz, hnd⟩ := hW
  have hA : DataW.TrodAll enc Try.prog W 0 (fun _ => true) true Try.f3.params.toList args.toList ds p := hA0
  rw [Try.params3] at hA hval
  obtain ⟨v0, vs0, d0, ds0, p0, q0, hargs, rfl, rfl, h0, r0⟩ := trodAll_cons hA
  obtain ⟨v1, vs1, d1, ds1, p1, q1, rfl, rfl, rfl, h1, r1⟩ := trodAll_cons r0
  obtain ⟨v2, vs2, d2, ds2, p2, q2, rfl, rfl, rfl, h2, r2⟩ := trodAll_cons r1
  obtain ⟨v3, vs3, d3, ds3, p3, q3, rfl, rfl, rfl, h3, r3⟩ := trodAll_cons r2
  obtain ⟨rfl, rfl, rfl⟩ := trodAll_nil r3
  obtain rfl : args = #[v0, v1, v2, v3] := by cases args; simp_all
  obtain ⟨rfl, rfl⟩ := trodVars_none hV
  have hbk : Rows.uptoBulkAll ([d0, d1, d2, d3] ++ []) ≤ 1048576 := by simpa [Rows.uptoSmall] using hk
  simp only [List.append_nil, Rows.uptoBulkAll] at hbk
  obtain ⟨a0, rfl, rfl, rfl, w0⟩ := open_int Try.underlying5 (hval 0 5 v0 rfl rfl) h0
  have b0 : 0 ≤ a0 ∧ a0 ≤ 255 := by simpa [Lit.wf, IntKind.min, IntKind.max, IntKind.signed, IntKind.bits] using w0
  obtain ⟨a1, hR1, hb1, hf1⟩ := open_terms tys (by have := hval 1 22 v1 rfl rfl; exact this) h1
  obtain ⟨a2, hR2, hb2, hf2⟩ := open_terms tys (by have := hval 2 22 v2 rfl rfl; exact this) h2
  obtain ⟨a3, rfl, rfl, rfl, w3⟩ := open_int Try.underlying3 (hval 3 3 v3 rfl rfl) h3
  have b3 : -9223372036854775808 ≤ a3 ∧ a3 ≤ 9223372036854775807 := by simpa [Lit.wf, IntKind.min, IntKind.max, IntKind.signed, IntKind.bits] using w3
  have hc := Fn.at (checkAccepts_fn a0 a1 a2 a3 b0.1 b0.2 (by omega) hf1 (by omega) hf2 b3.1 b3.2) W [.int .u8 a0, v1, v2, .int .i64 a3] ⟨_, _, rfl, rfl, _, _, rfl, hR1, _, _, rfl, hR2, _, _, rfl, rfl, rfl⟩
  refine hc.mono fun e W' ⟨u, F', he, hV, hB⟩ => ?_
  subst he
  rw [show u = .bool true from hV]
  exact ⟨_, rfl, post_true laid rd hW' rfl hB rfl Try.underlying4 rfl⟩

set_option maxRecDepth 100000 in
theorem lifted (os : Os) (started : os.Started) (H : Type) (enc : TypeId × Value → H) (F : Stop.Interp) :
    ReturnsInHanded {} Try.checked os 3 .any ((Rows.OpenSpec.upto Rows.checkAcceptsSpec).pre6 enc Try.prog Try.f3 Rows.checkAcceptsUptoRow.domain false) (((Rows.OpenSpec.upto Rows.checkAcceptsSpec).at F).post enc Try.prog Try.f3 false true false false) := by
  refine returnsInHanded_of_cond (C := Try.checked) (s := Rows.OpenSpec.upto Rows.checkAcceptsSpec) (k := Rows.uptoSmall) rfl own started (by kernel_rfl) Try.func3
    (OpenSpec.witness (enc := enc) (C := Try.checked) (s := Rows.OpenSpec.upto Rows.checkAcceptsSpec) (k := Rows.uptoSmall) rfl false ⟨#[], #[.int .u8 0, .slice none 0 0, .slice none 0 0, .int .i64 0], []⟩ 8 (by kernel_rfl) (by kernel_rfl) (by kernel_rfl)
      (x := ([.lit (.int .u8 0), .nil, .nil, .lit (.int .i64 0)], [], [])) (by kernel_rfl) rfl (by kernel_rfl)) ?_
  intro W base args ds gs before hval hW _ hk _
  exact contract H enc W base args ds gs before hval hW hk

theorem over : Rows.checkAcceptsUptoRow.holds Try.pinned (Rows.OpenSpec.upto Rows.checkAcceptsSpec) :=
  OpenClaim.holds_of_cond 3 Try.f3 rfl rfl rfl rfl rfl rfl rfl ⟨rfl, rfl, rfl, rfl, rfl⟩ rfl rfl rfl rfl rfl (by kernel_rfl) Try.func3 (by kernel_rfl)
    (of_decide_eq_true (by kernel_rfl)) (by unfold Func.isWrapper; first | (rw [if_pos (by decide +kernel)]; kernel_rfl) | (rw [if_neg (by decide +kernel)]; exact ⟨rfl, rfl⟩))
    (fun os started H enc _ F => lifted os started H enc F)

theorem proved : Rows.CheckAcceptsUptoSaid := over
end CheckAccepts
end Go.Proofs.Ytohncglpjiplaaa.AM
