import Derived.Test.YthpiggjclhnkcaaOg
import Derived.Test.YthpiggjclhnkcaaV2
namespace Go.Proofs.Ythpiggjclhnkcaa.AM
open Go
set_option linter.unusedVariables false
set_option linter.unusedSimpArgs false
theorem few_fn (t : Term) (hb : t.bulk ≤ 2 ^ 30) : Fn Try.prog 12 [.d (enc t)] [] (.d (.bool (decide ((t.size : Int) ≤ 500)))) [] := by
  refine Does.run Try.func12 rfl Try.ntmps12 rfl fun K hK => ?_
  refine Runs.rseq ?_
  refine RO.opn (v' := .ref 0 0) (O' := [_]) (opv_box_term rfl) rfl rfl ?_
  refine RO.opv (v' := .d (.bool false)) (opv_assign rfl) rfl ?_
  refine RO.nil ?_
  refine Runs.has [(1, .ref 0 0), (2, .d (.bool false))] ⟨rfl, rfl, trivial⟩ ?_
  refine Runs.rseq ?_
  refine RO.opv (v' := .d (enc _)) (opv_load_term rfl rfl rfl) rfl ?_
  refine RO.opv (v' := .d (.int _ _)) (opv_callF (rsize_fn t hb) rfl rfl rfl trivial) rfl ?_
  refine RO.opv (v' := .d (.bool _)) (opv_bin rfl rfl rfl) rfl ?_
  refine RO.opv (v' := .d (.bool _)) (opv_assign rfl) rfl ?_
  refine RO.nil ?_
  refine Runs.ret ?_
  refine EndQ.tmp (.inr rfl) rfl rfl 0 (by exact Nat.le_refl _) (by exact Nat.zero_le _) trivial ⟨?_, rfl⟩
  rfl
def oa : Term := .node 3 0 ⟨#[97]⟩ []
def of_ : Term := .node 3 0 ⟨#[102]⟩ [oa]
def ol : List Term := [of_, oa, .node 2 3 ⟨#[]⟩ [], .node 1 2 ⟨#[]⟩ []]
def os : List Term := isortF compareT 0 (ol.length - (0 + 1)) ol
theorem os_adj : adjB os = true := by decide +kernel
theorem shown_fn  : Fn Try.prog 10 [] [] (.d (.bool true)) [] := by
  refine Does.run Try.func10 rfl Try.ntmps10 rfl fun K hK => ?_
  refine Runs.rseq ?_
  refine RO.opv (v' := .d (.bool false)) (opv_assign rfl) rfl ?_
  refine RO.nil ?_
  refine Runs.rseq ?_
  refine RO.opv (v' := .d (enc _)) (opv_callF (atom_fn ⟨#[97]⟩) rfl rfl rfl trivial) rfl ?_
  refine RO.opv (v' := .d (.list (encs _))) (opv_bs_term1 rfl ) rfl ?_
  refine RO.opv (v' := .d (enc _)) (opv_callF (make_fn ⟨#[102]⟩ [oa] (Nat.le_of_ble_eq_true rfl)) rfl rfl rfl trivial) rfl ?_
  refine RO.opv (v' := .d (enc _)) (opv_callF (atom_fn ⟨#[97]⟩) rfl rfl rfl trivial) rfl ?_
  refine RO.opv (v' := .d (enc _)) (opv_callF (num_fn 3) rfl rfl rfl trivial) rfl ?_
  refine RO.opv (v' := .d (enc _)) (opv_callF (let_fn 2) rfl rfl rfl trivial) rfl ?_
  refine RO.opv (v' := .d (.list (encs _))) (opv_bs_term4 rfl rfl rfl rfl) rfl ?_
  refine RO.opv (v' := .d (.list (encs _))) (opv_callF (sort20_fn ol (by decide) (by decide) (fun x hx => by have h := List.all_eq_true.1 (show ol.all (fun x => Nat.ble x.bulk (2 ^ 30)) = true by decide +kernel) x hx; exact Nat.le_of_ble_eq_true h) (adj_no os_adj)) rfl rfl rfl trivial) rfl ?_
  refine RO.opv (v' := .d (.list (encs _))) (opv_assign rfl) rfl ?_
  refine RO.nil ?_
  refine Runs.has [(0, .d (.bool false)), (1, .d (.list (encs _)))] ⟨rfl, rfl, trivial⟩ ?_
  refine Runs.seq ?_
  refine Runs.drawn (by kernel_rfl) [] [false, false, false, false, false, false, false, false, false, false, false, false, false, false, false, false, false, false, false, false, false, false, false, false, false, false, false, false, false, false, false, false, false, false, false, false] [false, false, false, false, false, false, false, false, false, false, false, false, false, false, false, false, false, false, false, false, false, false, false, false, false, false, false, false, false, false, false, false, false, false, false, false] (by decide +kernel) ?_
  refine RD.opv (v' := .d (.list (encs _))) (opv_move rfl) rfl ?_
  refine RD.opv (v' := .d (.int _ _)) (opv_len_terms rfl) rfl ?_
  refine RD.opv (v' := .d (.bool _)) (opv_bin rfl rfl rfl) rfl ?_
  refine RD.opc (opv_move rfl) (fun h1 => ?_) (fun h1 => ?_)
  · skip
    refine RD.opgv (v' := .d (.list (encs _))) rfl (opv_move rfl) rfl ?_
    refine RD.opgv (v' := .d (.ptr _)) rfl (opv_index_terms (i := 0) rfl rfl (by decide +kernel)) rfl ?_
    refine RD.opgv (v' := .d (.ptr _)) rfl (opv_field_ptr rfl) rfl ?_
    refine RD.opgv (v' := .d (.int _ _)) rfl (opv_load_ptr rfl rfl) rfl ?_
    refine RD.opgv (v' := .d (.bool _)) rfl (opv_bin rfl rfl rfl) rfl ?_
    refine RD.opv (v' := .d (.bool _)) (opv_pick rfl rfl) rfl ?_
    refine RD.opc (opv_move rfl) (fun h2 => ?_) (fun h2 => ?_)
    · skip
      refine RD.opgv (v' := .d (.list (encs _))) rfl (opv_move rfl) rfl ?_
      refine RD.opgv (v' := .d (.ptr _)) rfl (opv_index_terms (i := 1) rfl rfl (by decide +kernel)) rfl ?_
      refine RD.opgv (v' := .d (.ptr _)) rfl (opv_field_ptr rfl) rfl ?_
      refine RD.opgv (v' := .d (.int _ _)) rfl (opv_load_ptr rfl rfl) rfl ?_
      refine RD.opgv (v' := .d (.bool _)) rfl (opv_bin rfl rfl rfl) rfl ?_
      refine RD.opv (v' := .d (.bool _)) (opv_pick rfl rfl) rfl ?_
      refine RD.opc (opv_move rfl) (fun h3 => ?_) (fun h3 => ?_)
      · skip
        refine RD.opgv (v' := .d (.list (encs _))) rfl (opv_move rfl) rfl ?_
        refine RD.opgv (v' := .d (.ptr _)) rfl (opv_index_terms (i := 2) rfl rfl (by decide +kernel)) rfl ?_
        refine RD.opgv (v' := .d (.ptr _)) rfl (opv_field_ptr rfl) rfl ?_
        refine RD.opgv (v' := .d (.list (encs _))) rfl (opv_load_ptr rfl rfl) rfl ?_
        refine RD.opgv (v' := .d (.int _ _)) rfl (opv_len_terms rfl) rfl ?_
        refine RD.opgv (v' := .d (.bool _)) rfl (opv_bin rfl rfl rfl) rfl ?_
        refine RD.opv (v' := .d (.bool _)) (opv_pick rfl rfl) rfl ?_
        refine RD.opc (opv_move rfl) (fun h4 => ?_) (fun h4 => ?_)
        · skip
          refine RD.opgv (v' := .d (.list (encs _))) rfl (opv_move rfl) rfl ?_
          refine RD.opgv (v' := .d (.ptr _)) rfl (opv_index_terms (i := 2) rfl rfl (by decide +kernel)) rfl ?_
          refine RD.opgv (v' := .d (enc _)) rfl (opv_load_pterm rfl) rfl ?_
          refine RD.opgv (v' := .d (.list (encs _))) rfl (opv_move rfl) rfl ?_
          refine RD.opgv (v' := .d (.ptr _)) rfl (opv_index_terms (i := 3) rfl rfl (by decide +kernel)) rfl ?_
          refine RD.opgv (v' := .d (enc _)) rfl (opv_load_pterm rfl) rfl ?_
          refine RD.opgv (v' := .d (.int _ _)) rfl (opv_callF (compare_fn os[2] os[3] (Nat.le_of_ble_eq_true (by decide +kernel)) (Nat.le_of_ble_eq_true (by decide +kernel))) rfl rfl rfl trivial) rfl ?_
          refine RD.opgv (v' := .d (.bool _)) rfl (opv_bin rfl rfl rfl) rfl ?_
          refine RD.opv (v' := .d (.bool _)) (opv_pick rfl rfl) rfl ?_
          refine RD.opv (v' := .d (.bool _)) (opv_assign rfl) rfl ?_
          refine RD.nil ?_
          refine thenQ_normal ?_
          refine Runs.ret ?_
          refine EndQ.tmp (.inr rfl) rfl rfl 0 (by exact Nat.le_refl _) (by exact Nat.zero_le _) trivial ⟨?_, rfl⟩
          refine bool_eq ?_; decide +kernel
        · skip
          exact absurd h4 (by decide +kernel)
      · skip
        exact absurd h3 (by decide +kernel)
    · skip
      exact absurd h2 (by decide +kernel)
  · skip
    exact absurd h1 (by decide +kernel)
end Go.Proofs.Ythpiggjclhnkcaa.AM
