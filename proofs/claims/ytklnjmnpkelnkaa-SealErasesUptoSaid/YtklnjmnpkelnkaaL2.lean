import Derived.Test.YtklnjmnpkelnkaaL0
namespace Go.Proofs.Ytklnjmnpkelnkaa.AM
open Go
set_option linter.unusedVariables false
set_option linter.unusedSimpArgs false
theorem sealErases_fn (a b : Term) (n : Int) (g2 : a.bulk ≤ 2 ^ 20) (_g2' : a.fits) (g3 : b.bulk ≤ 2 ^ 20) (_g3' : b.fits) (g1 : 0 ≤ n) (g1' : n ≤ 255) : Fn Try.prog 4 [.d (enc a), .d (enc b), .d (.int .u8 n)] [] (.d (.bool true)) [] := by
  have ea := erase_bulk a
  have eb := erase_bulk b
  have epp : (Term.node 3 0 ⟨#[102]⟩ [a, b]).erase = .node 3 0 ⟨#[102]⟩ [a.erase, b.erase] := by simp [Term.erase, erases]
  refine Does.run Try.func4 rfl Try.ntmps4 rfl fun K hK => ?_
  refine Runs.rseq ?_
  refine RO.opn (v' := .ref 0 0) (O' := [_]) (opv_box_term rfl) rfl rfl ?_
  refine RO.opn (v' := .ref 1 0) (O' := [_, _]) (opv_box_term rfl) rfl rfl ?_
  refine RO.opv (v' := .d (.bool false)) (opv_assign rfl) rfl ?_
  refine RO.nil ?_
  refine Runs.has [(2, .d (.int _ _)), (3, .ref 0 0), (4, .ref 1 0), (6, .d (.bool false))] ⟨rfl, rfl, rfl, rfl, trivial⟩ ?_
  refine Runs.rseq ?_
  refine RO.opv (v' := .d (.bool true)) (opv_callF (shown_fn) rfl rfl rfl trivial) rfl ?_
  refine RO.opv (v' := .d (.bool true)) (opv_assign rfl) rfl ?_
  refine RO.nil ?_
  refine Runs.has [(2, .d (.int _ _)), (3, .ref 0 0), (4, .ref 1 0), (6, .d (.bool false)), (7, .d (.bool true))] ⟨rfl, rfl, rfl, rfl, rfl, trivial⟩ ?_
  refine Runs.seq ?_
  refine Runs.rseq ?_
  refine RO.opv (v' := .d (enc _)) (opv_load_term rfl rfl rfl) rfl ?_
  refine RO.opv (v' := .d (.bool _)) (opv_callF (few_fn a (by omega)) rfl rfl rfl trivial) rfl ?_
  refine RO.opv (v' := .d (.bool _)) (opv_not rfl rfl) rfl ?_
  refine RO.opc (opv_move rfl) (fun h1 => ?_) (fun h1 => ?_)
  · try simp only [decide_eq_true_eq, decide_eq_false_iff_not, beq_iff_eq, beq_eq_false_iff_ne, bne_iff_ne, bne_eq_false_iff_eq, Int.not_lt, Int.not_le, ne_eq, Bool.not_eq_true', Bool.not_eq_false', gt_iff_lt, ge_iff_le] at h1
    refine RO.off rfl ?_
    refine RO.off rfl ?_
    refine RO.off rfl ?_
    refine RO.opv (v' := .d (.bool true)) (opv_pick rfl rfl) rfl ?_
    refine RO.nil ?_
    refine Runs.condT rfl ?_
    refine Runs.has [(2, .d (.int _ _)), (3, .ref 0 0), (4, .ref 1 0), (6, .d (.bool false)), (7, .d (.bool true))] ⟨rfl, rfl, rfl, rfl, rfl, trivial⟩ ?_
    refine Runs.rseq ?_
    refine RO.opv (v' := .d (.bool true)) (opv_move rfl) rfl ?_
    refine RO.opv (v' := .d (.bool true)) (opv_assign rfl) rfl ?_
    refine RO.nil ?_
    refine Runs.ret ?_
    refine thenQ_ret ?_
    refine EndQ.tmp (.inr rfl) rfl rfl 0 (by exact Nat.le_refl _) (by exact Nat.zero_le _) trivial ⟨?_, rfl⟩
    rfl
  · try simp only [decide_eq_true_eq, decide_eq_false_iff_not, beq_iff_eq, beq_eq_false_iff_ne, bne_iff_ne, bne_eq_false_iff_eq, Int.not_lt, Int.not_le, ne_eq, Bool.not_eq_true', Bool.not_eq_false', gt_iff_lt, ge_iff_le] at h1
    refine RO.opgv (v' := .d (enc _)) rfl (opv_load_term rfl rfl rfl) rfl ?_
    refine RO.opgv (v' := .d (.bool _)) rfl (opv_callF (few_fn b (by omega)) rfl rfl rfl trivial) rfl ?_
    refine RO.opgv (v' := .d (.bool _)) rfl (opv_not rfl rfl) rfl ?_
    refine RO.opc (opv_pick rfl rfl) (fun h2 => ?_) (fun h2 => ?_)
    · try simp only [decide_eq_true_eq, decide_eq_false_iff_not, beq_iff_eq, beq_eq_false_iff_ne, bne_iff_ne, bne_eq_false_iff_eq, Int.not_lt, Int.not_le, ne_eq, Bool.not_eq_true', Bool.not_eq_false', gt_iff_lt, ge_iff_le] at h2
      refine RO.nil ?_
      refine Runs.condT rfl ?_
      refine Runs.has [(2, .d (.int _ _)), (3, .ref 0 0), (4, .ref 1 0), (6, .d (.bool false)), (7, .d (.bool true))] ⟨rfl, rfl, rfl, rfl, rfl, trivial⟩ ?_
      refine Runs.rseq ?_
      refine RO.opv (v' := .d (.bool true)) (opv_move rfl) rfl ?_
      refine RO.opv (v' := .d (.bool true)) (opv_assign rfl) rfl ?_
      refine RO.nil ?_
      refine Runs.ret ?_
      refine thenQ_ret ?_
      refine EndQ.tmp (.inr rfl) rfl rfl 0 (by exact Nat.le_refl _) (by exact Nat.zero_le _) trivial ⟨?_, rfl⟩
      rfl
    · try simp only [decide_eq_true_eq, decide_eq_false_iff_not, beq_iff_eq, beq_eq_false_iff_ne, bne_iff_ne, bne_eq_false_iff_eq, Int.not_lt, Int.not_le, ne_eq, Bool.not_eq_true', Bool.not_eq_false', gt_iff_lt, ge_iff_le] at h2
      refine RO.nil ?_
      refine Runs.condF rfl ?_
      refine Runs.skip ?_
      refine thenQ_normal ?_
      refine Runs.has [(2, .d (.int _ _)), (3, .ref 0 0), (4, .ref 1 0), (6, .d (.bool false)), (7, .d (.bool true))] ⟨rfl, rfl, rfl, rfl, rfl, trivial⟩ ?_
      refine Runs.rseq ?_
      refine RO.opv (v' := .d (enc _)) (opv_load_term rfl rfl rfl) rfl ?_
      refine RO.opv (v' := .d (enc _)) (opv_callF (erase_fn a (by omega)) rfl rfl rfl trivial) rfl ?_
      refine RO.opn (v' := .ref 2 0) (O' := [_, _, _]) (opv_alloc) rfl rfl ?_
      refine RO.op0n (O' := [_, _, _]) (opv_store_term rfl rfl rfl (Nat.le_of_ble_eq_true rfl)) rfl ?_
      refine RO.nil ?_
      refine Runs.has [(2, .d (.int _ _)), (3, .ref 0 0), (4, .ref 1 0), (6, .d (.bool false)), (7, .d (.bool true)), (8, .ref 2 0)] ⟨rfl, rfl, rfl, rfl, rfl, rfl, trivial⟩ ?_
      refine Runs.rseq ?_
      refine RO.opv (v' := .d (enc _)) (opv_load_term rfl rfl rfl) rfl ?_
      refine RO.opv (v' := .d (enc _)) (opv_callF (erase_fn b (by omega)) rfl rfl rfl trivial) rfl ?_
      refine RO.opn (v' := .ref 3 0) (O' := [_, _, _, _]) (opv_alloc) rfl rfl ?_
      refine RO.op0n (O' := [_, _, _, _]) (opv_store_term rfl rfl rfl (Nat.le_of_ble_eq_true rfl)) rfl ?_
      refine RO.nil ?_
      refine Runs.has [(2, .d (.int _ _)), (3, .ref 0 0), (4, .ref 1 0), (6, .d (.bool false)), (7, .d (.bool true)), (8, .ref 2 0), (9, .ref 3 0)] ⟨rfl, rfl, rfl, rfl, rfl, rfl, rfl, trivial⟩ ?_
      refine Runs.seq ?_
      refine Runs.drawn (by kernel_rfl) [] [false, false, false, false, false, false, false, false, false, false, false, false, false, false, false, false, false, false, false, false, false, false, false, false, false, false, false, false, false, false] [false, false, false, false, false, false, false, false, false, false, false, false, false, false, false, false, false, false, false, false, false, false, false, false, false, false, false, false, false, false] (by decide +kernel) ?_
      refine RD.opv (v' := .d (.bool true)) (opv_move rfl) rfl ?_
      refine RD.opv (v' := .d (.bool true)) (opv_move rfl) rfl ?_
      refine RD.opgv (v' := .d (enc _)) rfl (opv_load_term rfl rfl rfl) rfl ?_
      refine RD.opgv (v' := .d (enc _)) rfl (opv_load_term rfl rfl rfl) rfl ?_
      refine RD.opgv (v' := .d (.list (encs _))) rfl (opv_bs_term2 rfl rfl ) rfl ?_
      refine RD.opgv (v' := .d (enc _)) rfl (opv_callF (make_fn ⟨#[102]⟩ [a, b] (Nat.le_of_ble_eq_true rfl)) rfl rfl rfl trivial) rfl ?_
      refine RD.opgv (v' := .d (enc _)) rfl (opv_callF (erase_fn (.node 3 0 ⟨#[102]⟩ [a, b]) (by show 1 + (a.bulk + (b.bulk + 0)) + 1 ≤ _; omega)) rfl rfl rfl trivial) rfl ?_
      refine RD.opgv (v' := .d (enc _)) rfl (opv_load_term rfl rfl rfl) rfl ?_
      refine RD.opgv (v' := .d (enc _)) rfl (opv_load_term rfl rfl rfl) rfl ?_
      refine RD.opgv (v' := .d (.list (encs _))) rfl (opv_bs_term2 rfl rfl ) rfl ?_
      refine RD.opgv (v' := .d (enc _)) rfl (opv_callF (make_fn ⟨#[102]⟩ [a.erase, b.erase] (Nat.le_of_ble_eq_true rfl)) rfl rfl rfl trivial) rfl ?_
      refine RD.opgv (v' := .d (.bool _)) rfl (opv_callF (same_fn (Term.erase (.node 3 0 ⟨#[102]⟩ [a, b])) (.node 3 0 ⟨#[102]⟩ [a.erase, b.erase]) (by rw [epp]; show 1 + (a.erase.bulk + (b.erase.bulk + 0)) + 1 ≤ _; omega) (by show 1 + (a.erase.bulk + (b.erase.bulk + 0)) + 1 ≤ _; omega)) rfl rfl rfl trivial) rfl ?_
      refine RD.opv (v' := .d (.bool _)) (opv_pick rfl rfl) rfl ?_
      refine RD.opc (opv_move rfl) (fun h3 => ?_) (fun h3 => ?_)
      · try simp only [decide_eq_true_eq, decide_eq_false_iff_not, beq_iff_eq, beq_eq_false_iff_ne, bne_iff_ne, bne_eq_false_iff_eq, Int.not_lt, Int.not_le, ne_eq, Bool.not_eq_true', Bool.not_eq_false', gt_iff_lt, ge_iff_le] at h3
        refine RD.opgv (v' := .d (enc _)) rfl (opv_load_term rfl rfl rfl) rfl ?_
        refine RD.opgv (v' := .d (.int _ _)) rfl (opv_move rfl) rfl ?_
        refine RD.opgv (v' := .d (.int _ _)) rfl (opv_conv (r := n) rfl (wrap64 (by omega) (by omega))) rfl ?_
        refine RD.opgv (v' := .d (enc _)) rfl (opv_callF (putS_fn _ _) rfl rfl rfl trivial) rfl ?_
        refine RD.opgv (v' := .d (enc _)) rfl (opv_callF (erase_fn (putS a n) (by show 0 + (a.bulk + 0) + 1 ≤ _; omega)) rfl rfl rfl trivial) rfl ?_
        refine RD.opgv (v' := .d (enc _)) rfl (opv_load_term rfl rfl rfl) rfl ?_
        refine RD.opgv (v' := .d (.bool _)) rfl (opv_callF (same_fn (putS a n).erase a.erase (by rw [erase_put]; omega) (by omega)) rfl rfl rfl trivial) rfl ?_
        refine RD.opv (v' := .d (.bool _)) (opv_pick rfl rfl) rfl ?_
        refine RD.opc (opv_move rfl) (fun h4 => ?_) (fun h4 => ?_)
        · try simp only [decide_eq_true_eq, decide_eq_false_iff_not, beq_iff_eq, beq_eq_false_iff_ne, bne_iff_ne, bne_eq_false_iff_eq, Int.not_lt, Int.not_le, ne_eq, Bool.not_eq_true', Bool.not_eq_false', gt_iff_lt, ge_iff_le] at h4
          refine RD.opgv (v' := .d (enc _)) rfl (opv_load_term rfl rfl rfl) rfl ?_
          refine RD.opgv (v' := .d (.int _ _)) rfl (opv_callF (deep_fn a.erase (by omega)) rfl rfl rfl trivial) rfl ?_
          refine RD.opgv (v' := .d (enc _)) rfl (opv_load_term rfl rfl rfl) rfl ?_
          refine RD.opgv (v' := .d (.int _ _)) rfl (opv_callF (deep_fn a (by omega)) rfl rfl rfl trivial) rfl ?_
          refine RD.opgv (v' := .d (.bool _)) rfl (opv_bin rfl rfl rfl) rfl ?_
          refine RD.opv (v' := .d (.bool _)) (opv_pick rfl rfl) rfl ?_
          refine RD.opv (v' := .d (.bool _)) (opv_assign rfl) rfl ?_
          refine RD.nil ?_
          refine thenQ_normal ?_
          refine Runs.ret ?_
          refine EndQ.tmp (.inr rfl) rfl rfl 0 (by exact Nat.le_refl _) (by exact Nat.zero_le _) trivial ⟨?_, rfl⟩
          refine bool_eq ?_; have := erase_deep a; simp; omega
        · try simp only [decide_eq_true_eq, decide_eq_false_iff_not, beq_iff_eq, beq_eq_false_iff_ne, bne_iff_ne, bne_eq_false_iff_eq, Int.not_lt, Int.not_le, ne_eq, Bool.not_eq_true', Bool.not_eq_false', gt_iff_lt, ge_iff_le] at h4
          rw [erase_put, same_refl] at h4; cases h4
      · try simp only [decide_eq_true_eq, decide_eq_false_iff_not, beq_iff_eq, beq_eq_false_iff_ne, bne_iff_ne, bne_eq_false_iff_eq, Int.not_lt, Int.not_le, ne_eq, Bool.not_eq_true', Bool.not_eq_false', gt_iff_lt, ge_iff_le] at h3
        rw [epp, same_refl] at h3; cases h3
end Go.Proofs.Ytklnjmnpkelnkaa.AM
