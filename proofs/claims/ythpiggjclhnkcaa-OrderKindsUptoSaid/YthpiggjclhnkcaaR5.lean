/- OrderKinds: where what it reads is of bulk at most 1048576, the law returns true, and each argument reads behind the call as it read before. -/
import Derived.Test.YthpiggjclhnkcaaL5
import Derived.Test.YthpiggjclhnkcaaE0
import Derived.WalkKit
namespace Go.Proofs.Ythpiggjclhnkcaa.AM
open Go Go.ChangeShapes Go.WideShapes Go.ChangeAt Go.RowKit
set_option linter.unusedVariables false
set_option linter.unusedSimpArgs false
set_option maxRecDepth 100000
namespace OrderKinds
theorem tys : TermTys Try.prog 24 22 3 2 9 := ⟨⟨_, _, _, _, Try.underlying24, rfl, rfl, rfl, rfl, rfl, rfl, rfl, rfl⟩, Try.underlying22, Try.underlying3, Try.underlying2, Try.underlying9, by kernel_rfl, by kernel_rfl, by kernel_rfl, by kernel_rfl, by kernel_rfl⟩
theorem own : ownKnob Try.prog.godebug = none := by kernel_rfl
theorem laid : laidOutB Try.prog = true := by kernel_rfl
theorem rd : ∀ t ∈ Try.f5.params.toList, Try.prog.readableRec t = true ∧ t < Try.prog.types.size := by
  rw [Try.params5]
  intro t ht
  have hs : 45 ≤ Try.prog.types.size := of_decide_eq_true (by kernel_rfl)
  simp only [List.mem_cons, List.not_mem_nil, or_false] at ht
  rcases ht with rfl | rfl | rfl | rfl | rfl | rfl
  · exact ⟨by kernel_rfl, Nat.lt_of_lt_of_le (by decide) hs⟩
  · exact ⟨by kernel_rfl, Nat.lt_of_lt_of_le (by decide) hs⟩
  · exact ⟨by kernel_rfl, Nat.lt_of_lt_of_le (by decide) hs⟩
  · exact ⟨by kernel_rfl, Nat.lt_of_lt_of_le (by decide) hs⟩
  · exact ⟨by kernel_rfl, Nat.lt_of_lt_of_le (by decide) hs⟩
  · exact ⟨by kernel_rfl, Nat.lt_of_lt_of_le (by decide) hs⟩
theorem contract (H : Type) (enc : TypeId × Value → H) (W : World) (base : Nat) (args : Array Value) (ds gs : List (DataW H)) (before : List MemPlace)
    (hval : ∀ (j : Nat) t v, Try.f5.params[j]? = some t → args[j]? = some v → Value.okWide Try.prog W .any base t v)
    (hW : DataW.Whole enc Try.prog Try.f5.params.toList Rows.orderKindsSpec.vars false W args.toList ds gs before) (hk : Rows.uptoSmall H (ds ++ gs) = true) :
    Calls Try.prog 5 args W fun e W' => ∃ v, e = .returned v ∧ Rows.orderKindsSpec.post enc Try.prog Try.f5 false true false false W args v W' := by
  have hW' := hW
  obtain ⟨p, q, hA0, hV, rfl, hfz, hnd⟩ := hW
  have hA : DataW.TrodAll enc Try.prog W 0 (fun _ => true) true Try.f5.params.toList args.toList ds p := hA0
  rw [Try.params5] at hA hval
  obtain ⟨v0, vs0, d0, ds0, p0, q0, hargs, rfl, rfl, h0, r0⟩ := trodAll_cons hA
  obtain ⟨v1, vs1, d1, ds1, p1, q1, rfl, rfl, rfl, h1, r1⟩ := trodAll_cons r0
  obtain ⟨v2, vs2, d2, ds2, p2, q2, rfl, rfl, rfl, h2, r2⟩ := trodAll_cons r1
  obtain ⟨v3, vs3, d3, ds3, p3, q3, rfl, rfl, rfl, h3, r3⟩ := trodAll_cons r2
  obtain ⟨v4, vs4, d4, ds4, p4, q4, rfl, rfl, rfl, h4, r4⟩ := trodAll_cons r3
  obtain ⟨v5, vs5, d5, ds5, p5, q5, rfl, rfl, rfl, h5, r5⟩ := trodAll_cons r4
  obtain ⟨rfl, rfl, rfl⟩ := trodAll_nil r5
  obtain rfl : args = #[v0, v1, v2, v3, v4, v5] := by cases args; simp_all
  obtain ⟨rfl, rfl⟩ := trodVars_none hV
  have hbk : Rows.uptoBulkAll ([d0, d1, d2, d3, d4, d5] ++ []) ≤ 1048576 := by simpa [Rows.uptoSmall] using hk
  simp only [List.append_nil, Rows.uptoBulkAll] at hbk
  obtain ⟨a0, rfl, rfl, rfl, w0⟩ := open_int Try.underlying44 (hval 0 44 v0 rfl rfl) h0
  have b0 : 0 ≤ a0 ∧ a0 ≤ 65535 := by simpa [Lit.wf, IntKind.min, IntKind.max, IntKind.signed, IntKind.bits] using w0
  obtain ⟨a1, rfl, rfl, rfl, w1⟩ := open_int Try.underlying2 (hval 1 2 v1 rfl rfl) h1
  have b1 : -9223372036854775808 ≤ a1 ∧ a1 ≤ 9223372036854775807 := by simpa [Lit.wf, IntKind.min, IntKind.max, IntKind.signed, IntKind.bits] using w1
  obtain ⟨a2, rfl, rfl, rfl, w2⟩ := open_int Try.underlying2 (hval 2 2 v2 rfl rfl) h2
  have b2 : -9223372036854775808 ≤ a2 ∧ a2 ≤ 9223372036854775807 := by simpa [Lit.wf, IntKind.min, IntKind.max, IntKind.signed, IntKind.bits] using w2
  obtain ⟨a3, rfl, rfl, rfl, w3⟩ := open_str tys.hS (hval 3 9 v3 rfl rfl) h3
  obtain ⟨a4, rfl, rfl, rfl, w4⟩ := open_str tys.hS (hval 4 9 v4 rfl rfl) h4
  obtain ⟨a5, hR5, hb5, hf5⟩ := open_terms tys (by have := hval 5 22 v5 rfl rfl; exact this) h5
  have hc := Fn.at (orderKinds_fn a0 a1 a2 a3 a4 a5 b0.1 b0.2 b1.1 b1.2 b2.1 b2.2 (by simp only [bulk_str] at hbk; omega) (by simp only [bulk_str] at hbk; omega) (by omega) hf5) W [.int .u16 a0, .int .i64 a1, .int .i64 a2, .string a3, .string a4, v5] ⟨_, _, rfl, rfl, _, _, rfl, rfl, _, _, rfl, rfl, _, _, rfl, rfl, _, _, rfl, rfl, _, _, rfl, hR5, rfl⟩
  refine hc.mono fun e W' ⟨u, F', he, hV, hB⟩ => ?_
  subst he
  rw [show u = .bool true from hV]
  exact ⟨_, rfl, post_true laid rd hW' rfl hB rfl Try.underlying4 rfl⟩

set_option maxRecDepth 100000 in
theorem lifted (os : Os) (started : os.Started) (H : Type) (enc : TypeId × Value → H) (F : Stop.Interp) :
    ReturnsInHanded {} Try.checked os 5 .any ((Rows.OpenSpec.upto Rows.orderKindsSpec).pre6 enc Try.prog Try.f5 Rows.orderKindsUptoRow.domain false) (((Rows.OpenSpec.upto Rows.orderKindsSpec).at F).post enc Try.prog Try.f5 false true false false) := by
  refine returnsInHanded_of_cond (C := Try.checked) (s := Rows.OpenSpec.upto Rows.orderKindsSpec) (k := Rows.uptoSmall) rfl own started (by kernel_rfl) Try.func5
    (OpenSpec.witness (enc := enc) (C := Try.checked) (s := Rows.OpenSpec.upto Rows.orderKindsSpec) (k := Rows.uptoSmall) rfl false ⟨#[], #[.int .u16 0, .int .i64 0, .int .i64 0, .string ⟨#[]⟩, .string ⟨#[]⟩, .slice none 0 0], []⟩ 8 (by kernel_rfl) (by kernel_rfl) (by kernel_rfl)
      (x := ([.lit (.int .u16 0), .lit (.int .i64 0), .lit (.int .i64 0), .lit (.string []), .lit (.string []), .nil], [], [])) (by kernel_rfl) rfl (by kernel_rfl)) ?_
  intro W base args ds gs before hval hW _ hk _
  exact contract H enc W base args ds gs before hval hW hk

theorem over : Rows.orderKindsUptoRow.holds Try.pinned (Rows.OpenSpec.upto Rows.orderKindsSpec) :=
  OpenClaim.holds_of_cond 5 Try.f5 rfl rfl rfl rfl rfl rfl rfl ⟨rfl, rfl, rfl, rfl, rfl⟩ rfl rfl rfl rfl rfl (by kernel_rfl) Try.func5 (by kernel_rfl)
    (of_decide_eq_true (by kernel_rfl)) (by unfold Func.isWrapper; first | (rw [if_pos (by decide +kernel)]; kernel_rfl) | (rw [if_neg (by decide +kernel)]; exact ⟨rfl, rfl⟩))
    (fun os started H enc _ F => lifted os started H enc F)

theorem proved : Rows.OrderKindsUptoSaid := over
end OrderKinds
end Go.Proofs.Ythpiggjclhnkcaa.AM
