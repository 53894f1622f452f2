import Derived.Test.YtondfedhffjokaaTn
import Derived.Test.YtondfedhffjokaaP1
namespace Go.Proofs.Ytondfedhffjokaa.AM
open Go
set_option linter.unusedVariables false
set_option linter.unusedSimpArgs false
theorem few_fn (t : Term) (hb : t.bulk ≤ 2 ^ 30) : Fn Try.prog 11 [.d (enc t)] [] (.d (.bool (decide ((t.size : Int) ≤ 3000)))) [] := by
  refine Does.run Try.func11 rfl Try.ntmps11 rfl fun K hK => ?_
  refine Runs.rseq ?_
  refine RO.opn (v' := .ref 0 0) (O' := [_]) (opv_box_term rfl) rfl rfl ?_
  refine RO.opv (v' := .d (.bool false)) (opv_assign rfl) rfl ?_
  refine RO.nil ?_
  refine Runs.has [(1, .ref 0 0), (2, .d (.bool false))] ⟨rfl, rfl, trivial⟩ ?_
  refine Runs.rseq ?_
  refine RO.opv (v' := .d (enc _)) (opv_load_term rfl rfl rfl) rfl ?_
  refine RO.opv (v' := .d (.int _ _)) (opv_callF (rsize_fn t hb) rfl rfl rfl trivial) rfl ?_
  refine RO.opv (v' := .d (.bool _)) (opv_bin rfl rfl rfl) rfl ?_
  refine RO.opv (v' := .d (.bool _)) (opv_assign rfl) rfl ?_
  refine RO.nil ?_
  refine Runs.ret ?_
  refine EndQ.tmp (.inr rfl) rfl rfl 0 (by exact Nat.le_refl _) (by exact Nat.zero_le _) trivial ⟨?_, rfl⟩
  rfl
theorem shown_fn  : Fn Try.prog 10 [] [] (.d (.bool true)) [] := by
  refine Does.run Try.func10 rfl Try.ntmps10 rfl fun K hK => ?_
  refine Runs.rseq ?_
  refine RO.opv (v' := .d (.bool false)) (opv_assign rfl) rfl ?_
  refine RO.nil ?_
  refine Runs.rseq ?_
  refine RO.opv (v' := .d (enc _)) (opv_callF (let_fn _) rfl rfl rfl trivial) rfl ?_
  refine RO.opv (v' := .d (enc _)) (opv_callF (let_fn _) rfl rfl rfl trivial) rfl ?_
  refine RO.opv (v' := .d (enc _)) (opv_callF (let_fn _) rfl rfl rfl trivial) rfl ?_
  refine RO.opv (v' := .d (.list (encs _))) (opv_bs_term2 rfl rfl ) rfl ?_
  refine RO.opv (v' := .d (enc _)) (opv_callF (make_fn _ _ (by decide)) rfl rfl rfl trivial) rfl ?_
  refine RO.opv (v' := .d (.list (encs _))) (opv_bs_term2 rfl rfl ) rfl ?_
  refine RO.opv (v' := .d (enc _)) (opv_callF (make_fn _ _ (by decide)) rfl rfl rfl trivial) rfl ?_
  refine RO.opn (v' := .ref 0 0) (O' := [_]) (opv_alloc) rfl rfl ?_
  refine RO.op0n (O' := [_]) (opv_store_term rfl rfl rfl (Nat.le_of_ble_eq_true rfl)) rfl ?_
  refine RO.nil ?_
  refine Runs.has [(0, .d (.bool false)), (1, .ref 0 0)] ⟨rfl, rfl, trivial⟩ ?_
  refine Runs.rseq ?_
  refine RO.opv (v' := .d (enc _)) (opv_load_term rfl rfl rfl) rfl ?_
  refine RO.opv (v' := .d (.list (ints _))) (opv_callF (vars_fn _ (by decide +kernel)) rfl rfl rfl trivial) rfl ?_
  refine RO.opv (v' := .d (.list (ints _))) (opv_bs_int2 rfl rfl ) rfl ?_
  refine RO.opv (v' := .d (.bool _)) (opv_callF (ints_fn _ _ (by decide +kernel) (by decide)) rfl rfl rfl trivial) rfl ?_
  refine RO.opc (opv_move rfl) (fun h1 => ?_) (fun h1 => ?_)
  · skip
    refine RO.opgv (v' := .d (enc _)) rfl (opv_load_term rfl rfl rfl) rfl ?_
    refine RO.opgv (v' := .d (.int _ _)) rfl (opv_callF (size_fn _ (by decide +kernel)) rfl rfl rfl trivial) rfl ?_
    refine RO.opgv (v' := .d (.bool _)) rfl (opv_bin rfl rfl rfl) rfl ?_
    refine RO.opv (v' := .d (.bool _)) (opv_pick rfl rfl) rfl ?_
    refine RO.opc (opv_move rfl) (fun h2 => ?_) (fun h2 => ?_)
    · skip
      refine RO.opgv (v' := .d (enc _)) rfl (opv_load_term rfl rfl rfl) rfl ?_
      refine RO.opgv (v' := .d (.int _ _)) rfl (opv_callF (deep_fn _ (by decide +kernel)) rfl rfl rfl trivial) rfl ?_
      refine RO.opgv (v' := .d (.bool _)) rfl (opv_bin rfl rfl rfl) rfl ?_
      refine RO.opv (v' := .d (.bool _)) (opv_pick rfl rfl) rfl ?_
      refine RO.opc (opv_move rfl) (fun h3 => ?_) (fun h3 => ?_)
      · skip
        refine RO.opgv (v' := .d (enc _)) rfl (opv_load_term rfl rfl rfl) rfl ?_
        refine RO.opgv (v' := .d (.int _ _)) rfl (opv_callF (check_fn _ _ (by decide +kernel)) rfl rfl rfl trivial) rfl ?_
        refine RO.opgv (v' := .d (.bool _)) rfl (opv_bin rfl rfl rfl) rfl ?_
        refine RO.opv (v' := .d (.bool _)) (opv_pick rfl rfl) rfl ?_
        refine RO.opv (v' := .d (.bool _)) (opv_assign rfl) rfl ?_
        refine RO.nil ?_
        refine Runs.ret ?_
        refine EndQ.tmp (.inr rfl) rfl rfl 0 (by exact Nat.le_refl _) (by exact Nat.zero_le _) trivial ⟨?_, rfl⟩
        refine bool_eq ?_; decide +kernel
      · skip
        exact absurd h3 (by decide +kernel)
    · skip
      exact absurd h2 (by decide +kernel)
  · skip
    exact absurd h1 (by decide +kernel)
end Go.Proofs.Ytondfedhffjokaa.AM
