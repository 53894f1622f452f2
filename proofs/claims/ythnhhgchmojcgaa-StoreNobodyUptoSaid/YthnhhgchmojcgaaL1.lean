import Derived.Test.YthnhhgchmojcgaaL0
namespace Go.Proofs.Ythnhhgchmojcgaa.AM
open Go
set_option linter.unusedVariables false
set_option linter.unusedSimpArgs false
theorem storeNobody_fn (t : Term) (v : Int) (g1 : t.bulk ≤ 2 ^ 20) (_g1' : t.fits) (_g2 : -9223372036854775808 ≤ v) (_g2' : v ≤ 9223372036854775807) : Fn Try.prog 6 [.d (enc t), .d (.int .i64 v)] [] (.d (.bool true)) [] := by
  refine Does.run Try.func6 rfl Try.ntmps6 rfl fun K hK => ?_
  refine Runs.rseq ?_
  refine RO.opn (v' := .ref 0 0) (O' := [_]) (opv_box_term rfl) rfl rfl ?_
  refine RO.opv (v' := .d (.bool false)) (opv_assign rfl) rfl ?_
  refine RO.nil ?_
  refine Runs.has [(1, .d (.int _ _)), (2, .ref 0 0), (4, .d (.bool false))] ⟨rfl, rfl, rfl, trivial⟩ ?_
  refine Runs.rseq ?_
  refine RO.opv (v' := .d (.bool true)) (opv_callF (shown_fn) rfl rfl rfl trivial) rfl ?_
  refine RO.opv (v' := .d (.bool true)) (opv_assign rfl) rfl ?_
  refine RO.nil ?_
  refine Runs.has [(1, .d (.int _ _)), (2, .ref 0 0), (4, .d (.bool false)), (5, .d (.bool true))] ⟨rfl, rfl, rfl, rfl, trivial⟩ ?_
  refine Runs.seq ?_
  refine Runs.rseq ?_
  refine RO.opv (v' := .d (enc _)) (opv_load_term rfl rfl rfl) rfl ?_
  refine RO.opv (v' := .d (.bool _)) (opv_callF (few_fn t (by omega)) rfl rfl rfl trivial) rfl ?_
  refine RO.opc (opv_not rfl rfl) (fun h1 => ?_) (fun h1 => ?_)
  · skip
    refine RO.nil ?_
    refine Runs.condT rfl ?_
    refine Runs.has [(1, .d (.int _ _)), (2, .ref 0 0), (4, .d (.bool false)), (5, .d (.bool true))] ⟨rfl, rfl, rfl, rfl, trivial⟩ ?_
    refine Runs.rseq ?_
    refine RO.opv (v' := .d (.bool true)) (opv_move rfl) rfl ?_
    refine RO.opv (v' := .d (.bool true)) (opv_assign rfl) rfl ?_
    refine RO.nil ?_
    refine Runs.ret ?_
    refine thenQ_ret ?_
    refine EndQ.tmp (.inr rfl) rfl rfl 0 (by exact Nat.le_refl _) (by exact Nat.zero_le _) trivial ⟨?_, rfl⟩
    rfl
  · skip
    refine RO.nil ?_
    refine Runs.condF rfl ?_
    refine Runs.skip ?_
    refine thenQ_normal ?_
    refine Runs.has [(1, .d (.int _ _)), (2, .ref 0 0), (4, .d (.bool false)), (5, .d (.bool true))] ⟨rfl, rfl, rfl, rfl, trivial⟩ ?_
    refine Runs.rseq ?_
    refine RO.opv (v' := .d .nilp) (opv_assign rfl) rfl ?_
    refine RO.nil ?_
    refine Runs.rseq ?_
    refine RO.opv (v' := .d .nilp) (opv_move rfl) rfl ?_
    refine RO.opv (v' := .d (.int _ _)) (opv_move rfl) rfl ?_
    refine RO.opv (opv_callF (undo_nil v) rfl rfl rfl trivial) rfl ?_
    refine RO.nil ?_
    refine Runs.has [(1, .d (.int _ _)), (2, .ref 0 0), (4, .d (.bool false)), (5, .d (.bool true)), (6, .d .nilp)] ⟨rfl, rfl, rfl, rfl, rfl, trivial⟩ ?_
    refine Runs.rseq ?_
    refine RO.opv (v' := .d .nilp) (opv_move rfl) rfl ?_
    refine RO.opv (opv_callF (fresh_nil 1) rfl rfl rfl ⟨trivial, trivial, trivial⟩) rfl ?_
    refine RO.opv (opv_move rfl) rfl ?_
    refine RO.opv (v' := .d (.int _ _)) (opv_extract rfl rfl) rfl ?_
    refine RO.opv (v' := .d (.int _ _)) (opv_extract rfl rfl) rfl ?_
    refine RO.opv (v' := .d (.int _ _)) (opv_assign rfl) rfl ?_
    refine RO.opv (v' := .d (.int _ _)) (opv_assign rfl) rfl ?_
    refine RO.nil ?_
    refine Runs.has [(1, .d (.int _ _)), (2, .ref 0 0), (4, .d (.bool false)), (5, .d (.bool true)), (6, .d .nilp), (8, .d (.int _ _))] ⟨rfl, rfl, rfl, rfl, rfl, rfl, trivial⟩ ?_
    refine Runs.rseq ?_
    refine RO.opv (v' := .d .nilp) (opv_move rfl) rfl ?_
    refine RO.opv (v' := .d (enc _)) (opv_load_term rfl rfl rfl) rfl ?_
    refine RO.opv (opv_callF (full_nil t) rfl rfl rfl ⟨trivial, trivial, trivial⟩) rfl ?_
    refine RO.opv (opv_move rfl) rfl ?_
    refine RO.opv (v' := .d (enc _)) (opv_extract rfl rfl) rfl ?_
    refine RO.opv (v' := .d (.int _ _)) (opv_extract rfl rfl) rfl ?_
    refine RO.opn (v' := .ref 1 0) (O' := [_, _]) (opv_alloc) rfl rfl ?_
    refine RO.op0n (O' := [_, _]) (opv_store_term rfl rfl rfl (Nat.le_of_ble_eq_true rfl)) rfl ?_
    refine RO.opv (v' := .d (.int _ _)) (opv_assign rfl) rfl ?_
    refine RO.nil ?_
    refine Runs.has [(1, .d (.int _ _)), (2, .ref 0 0), (4, .d (.bool false)), (5, .d (.bool true)), (6, .d .nilp), (8, .d (.int _ _)), (9, .ref 1 0), (10, .d (.int _ _))] ⟨rfl, rfl, rfl, rfl, rfl, rfl, rfl, rfl, trivial⟩ ?_
    refine Runs.seq ?_
    refine Runs.drawn (by kernel_rfl) [] [false, false, false, false, false, false, false, false, false, false, false, false, false, false, false, false, false, false, false, false, false, false, false, false, false, false, false, false, false, false, false, false, false, false] [false, false, false, false, false, false, false, false, false, false, false, false, false, false, false, false, false, false, false, false, false, false, false, false, false, false, false, false, false, false, false, false, false, false] (by decide +kernel) ?_
    refine RD.opv (v' := .d (.bool true)) (opv_move rfl) rfl ?_
    refine RD.opv (v' := .d (.bool true)) (opv_move rfl) rfl ?_
    refine RD.opgv (v' := .d (.int _ _)) rfl (opv_move rfl) rfl ?_
    refine RD.opgv (v' := .d (.bool _)) rfl (opv_bin rfl rfl rfl) rfl ?_
    refine RD.opv (v' := .d (.bool _)) (opv_pick rfl rfl) rfl ?_
    refine RD.opc (opv_move rfl) (fun h2 => ?_) (fun h2 => ?_)
    · skip
      refine RD.opgv (v' := .d .nilp) rfl (opv_move rfl) rfl ?_
      refine RD.opgv (v' := .d (.int _ _)) rfl (opv_move rfl) rfl ?_
      refine RD.opgv (v' := .d (enc _)) rfl (opv_load_term rfl rfl rfl) rfl ?_
      refine RD.opgv (v' := .d (.int _ _)) rfl (opv_callF (bind_nil v t) rfl rfl rfl trivial) rfl ?_
      refine RD.opgv (v' := .d (.bool _)) rfl (opv_bin rfl rfl rfl) rfl ?_
      refine RD.opv (v' := .d (.bool _)) (opv_pick rfl rfl) rfl ?_
      refine RD.opc (opv_move rfl) (fun h3 => ?_) (fun h3 => ?_)
      · skip
        refine RD.opgv (v' := .d .nilp) rfl (opv_move rfl) rfl ?_
        refine RD.opgv (v' := .d (.int _ _)) rfl (opv_callF (mark_nil) rfl rfl rfl trivial) rfl ?_
        refine RD.opgv (v' := .d (.bool _)) rfl (opv_bin rfl rfl rfl) rfl ?_
        refine RD.opv (v' := .d (.bool _)) (opv_pick rfl rfl) rfl ?_
        refine RD.opc (opv_move rfl) (fun h4 => ?_) (fun h4 => ?_)
        · skip
          refine RD.opgv (v' := .d .nilp) rfl (opv_move rfl) rfl ?_
          refine RD.opgv (v' := .d (enc _)) rfl (opv_load_term rfl rfl rfl) rfl ?_
          refine RD.opgv (v' := .d (enc _)) rfl (opv_callF (walk_nil t) rfl rfl rfl trivial) rfl ?_
          refine RD.opgv (v' := .d (enc _)) rfl (opv_load_term rfl rfl rfl) rfl ?_
          refine RD.opgv (v' := .d (.bool _)) rfl (opv_callF (same_fn t t (by omega) (by omega)) rfl rfl rfl trivial) rfl ?_
          refine RD.opv (v' := .d (.bool _)) (opv_pick rfl rfl) rfl ?_
          refine RD.opc (opv_move rfl) (fun h5 => ?_) (fun h5 => ?_)
          · skip
            refine RD.opgv (v' := .d (.int _ _)) rfl (opv_move rfl) rfl ?_
            refine RD.opgv (v' := .d (.bool _)) rfl (opv_bin rfl rfl rfl) rfl ?_
            refine RD.opv (v' := .d (.bool _)) (opv_pick rfl rfl) rfl ?_
            refine RD.opc (opv_move rfl) (fun h6 => ?_) (fun h6 => ?_)
            · skip
              refine RD.opgv (v' := .d (enc _)) rfl (opv_load_term rfl rfl rfl) rfl ?_
              refine RD.opgv (v' := .d (enc _)) rfl (opv_load_term rfl rfl rfl) rfl ?_
              refine RD.opgv (v' := .d (.bool _)) rfl (opv_callF (same_fn t t (by omega) (by omega)) rfl rfl rfl trivial) rfl ?_
              refine RD.opv (v' := .d (.bool _)) (opv_pick rfl rfl) rfl ?_
              refine RD.opv (v' := .d (.bool _)) (opv_assign rfl) rfl ?_
              refine RD.nil ?_
              refine thenQ_normal ?_
              refine Runs.ret ?_
              refine EndQ.tmp (.inr rfl) rfl rfl 0 (by exact Nat.le_refl _) (by exact Nat.zero_le _) trivial ⟨?_, rfl⟩
              refine bool_eq ?_; rw [same_refl]
            · skip
              first | exact absurd h6 (by decide) | (rw [same_refl] at h6; cases h6)
          · skip
            first | exact absurd h5 (by decide) | (rw [same_refl] at h5; cases h5)
        · skip
          first | exact absurd h4 (by decide) | (rw [same_refl] at h4; cases h4)
      · skip
        first | exact absurd h3 (by decide) | (rw [same_refl] at h3; cases h3)
    · skip
      first | exact absurd h2 (by decide) | (rw [same_refl] at h2; cases h2)
end Go.Proofs.Ythnhhgchmojcgaa.AM
