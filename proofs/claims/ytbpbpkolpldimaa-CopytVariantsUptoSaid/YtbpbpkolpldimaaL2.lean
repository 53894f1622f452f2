import Derived.Test.YtbpbpkolpldimaaL0
namespace Go.Proofs.Ytbpbpkolpldimaa.AM
open Go
set_option linter.unusedVariables false
set_option linter.unusedSimpArgs false
theorem copytVariants_fn (a b c : Term) (by_ : Int) (g1 : a.bulk ≤ 2 ^ 20) (g1' : a.fits) (g2 : b.bulk ≤ 2 ^ 20) (_g2' : b.fits) (g3 : c.bulk ≤ 2 ^ 20) (_g3' : c.fits) (g4 : 0 ≤ by_) (g4' : by_ ≤ 65535) : Fn Try.prog 4 [.d (enc a), .d (enc b), .d (enc c), .d (.int .u16 by_)] [] (.d (.bool true)) [] := by
  refine Does.run Try.func4 rfl Try.ntmps4 rfl fun K hK => ?_
  refine Runs.rseq ?_
  refine RO.opn (v' := .ref 0 0) (O' := [_]) (opv_box_term rfl) rfl rfl ?_
  refine RO.opn (v' := .ref 1 0) (O' := [_, _]) (opv_box_term rfl) rfl rfl ?_
  refine RO.opn (v' := .ref 2 0) (O' := [_, _, _]) (opv_box_term rfl) rfl rfl ?_
  refine RO.opv (v' := .d (.bool false)) (opv_assign rfl) rfl ?_
  refine RO.nil ?_
  refine Runs.has [(3, .d (.int _ _)), (4, .ref 0 0), (5, .ref 1 0), (6, .ref 2 0), (8, .d (.bool false))] ⟨rfl, rfl, rfl, rfl, rfl, trivial⟩ ?_
  refine Runs.rseq ?_
  refine RO.opv (v' := .d (.bool true)) (opv_callF (shown_fn) rfl rfl rfl trivial) rfl ?_
  refine RO.opv (v' := .d (.bool true)) (opv_assign rfl) rfl ?_
  refine RO.nil ?_
  refine Runs.has [(3, .d (.int _ _)), (4, .ref 0 0), (5, .ref 1 0), (6, .ref 2 0), (8, .d (.bool false)), (9, .d (.bool true))] ⟨rfl, rfl, rfl, rfl, rfl, rfl, trivial⟩ ?_
  refine Runs.seq ?_
  refine Runs.rseq ?_
  refine RO.opv (v' := .d (enc _)) (opv_load_term rfl rfl rfl) rfl ?_
  refine RO.opv (v' := .d (.bool _)) (opv_callF (few_fn a (by omega)) rfl rfl rfl trivial) rfl ?_
  refine RO.opv (v' := .d (.bool _)) (opv_not rfl rfl) rfl ?_
  refine RO.opc (opv_move rfl) (fun h1 => ?_) (fun h1 => ?_)
  · try simp only [decide_eq_true_eq, decide_eq_false_iff_not, beq_iff_eq, beq_eq_false_iff_ne, bne_iff_ne, bne_eq_false_iff_eq, Int.not_lt, Int.not_le, ne_eq, Bool.not_eq_true', Bool.not_eq_false', gt_iff_lt, ge_iff_le] at h1
    refine RO.off rfl ?_
    refine RO.off rfl ?_
    refine RO.off rfl ?_
    refine RO.opv (v' := .d (.bool true)) (opv_pick rfl rfl) rfl ?_
    refine RO.opv (v' := .d (.bool true)) (opv_move rfl) rfl ?_
    refine RO.off rfl ?_
    refine RO.off rfl ?_
    refine RO.off rfl ?_
    refine RO.opv (v' := .d (.bool true)) (opv_pick rfl rfl) rfl ?_
    refine RO.nil ?_
    refine Runs.condT rfl ?_
    refine Runs.has [(3, .d (.int _ _)), (4, .ref 0 0), (5, .ref 1 0), (6, .ref 2 0), (8, .d (.bool false)), (9, .d (.bool true))] ⟨rfl, rfl, rfl, rfl, rfl, rfl, trivial⟩ ?_
    refine Runs.rseq ?_
    refine RO.opv (v' := .d (.bool true)) (opv_move rfl) rfl ?_
    refine RO.opv (v' := .d (.bool true)) (opv_assign rfl) rfl ?_
    refine RO.nil ?_
    refine Runs.ret ?_
    refine thenQ_ret ?_
    refine EndQ.tmp (.inr rfl) rfl rfl 0 (by exact Nat.le_refl _) (by exact Nat.zero_le _) trivial ⟨?_, rfl⟩
    first | rfl | (refine bool_eq ?_; rw [norm_shift g1', same_refl])
  · try simp only [decide_eq_true_eq, decide_eq_false_iff_not, beq_iff_eq, beq_eq_false_iff_ne, bne_iff_ne, bne_eq_false_iff_eq, Int.not_lt, Int.not_le, ne_eq, Bool.not_eq_true', Bool.not_eq_false', gt_iff_lt, ge_iff_le] at h1
    refine RO.opgv (v' := .d (enc _)) rfl (opv_load_term rfl rfl rfl) rfl ?_
    refine RO.opgv (v' := .d (.bool _)) rfl (opv_callF (few_fn b (by omega)) rfl rfl rfl trivial) rfl ?_
    refine RO.opgv (v' := .d (.bool _)) rfl (opv_not rfl rfl) rfl ?_
    refine RO.opv (v' := .d (.bool _)) (opv_pick rfl rfl) rfl ?_
    refine RO.opc (opv_move rfl) (fun h2 => ?_) (fun h2 => ?_)
    · try simp only [decide_eq_true_eq, decide_eq_false_iff_not, beq_iff_eq, beq_eq_false_iff_ne, bne_iff_ne, bne_eq_false_iff_eq, Int.not_lt, Int.not_le, ne_eq, Bool.not_eq_true', Bool.not_eq_false', gt_iff_lt, ge_iff_le] at h2
      refine RO.off rfl ?_
      refine RO.off rfl ?_
      refine RO.off rfl ?_
      refine RO.opv (v' := .d (.bool true)) (opv_pick rfl rfl) rfl ?_
      refine RO.nil ?_
      refine Runs.condT rfl ?_
      refine Runs.has [(3, .d (.int _ _)), (4, .ref 0 0), (5, .ref 1 0), (6, .ref 2 0), (8, .d (.bool false)), (9, .d (.bool true))] ⟨rfl, rfl, rfl, rfl, rfl, rfl, trivial⟩ ?_
      refine Runs.rseq ?_
      refine RO.opv (v' := .d (.bool true)) (opv_move rfl) rfl ?_
      refine RO.opv (v' := .d (.bool true)) (opv_assign rfl) rfl ?_
      refine RO.nil ?_
      refine Runs.ret ?_
      refine thenQ_ret ?_
      refine EndQ.tmp (.inr rfl) rfl rfl 0 (by exact Nat.le_refl _) (by exact Nat.zero_le _) trivial ⟨?_, rfl⟩
      first | rfl | (refine bool_eq ?_; rw [norm_shift g1', same_refl])
    · try simp only [decide_eq_true_eq, decide_eq_false_iff_not, beq_iff_eq, beq_eq_false_iff_ne, bne_iff_ne, bne_eq_false_iff_eq, Int.not_lt, Int.not_le, ne_eq, Bool.not_eq_true', Bool.not_eq_false', gt_iff_lt, ge_iff_le] at h2
      refine RO.opgv (v' := .d (enc _)) rfl (opv_load_term rfl rfl rfl) rfl ?_
      refine RO.opgv (v' := .d (.bool _)) rfl (opv_callF (few_fn c (by omega)) rfl rfl rfl trivial) rfl ?_
      refine RO.opgv (v' := .d (.bool _)) rfl (opv_not rfl rfl) rfl ?_
      refine RO.opc (opv_pick rfl rfl) (fun h3 => ?_) (fun h3 => ?_)
      · try simp only [decide_eq_true_eq, decide_eq_false_iff_not, beq_iff_eq, beq_eq_false_iff_ne, bne_iff_ne, bne_eq_false_iff_eq, Int.not_lt, Int.not_le, ne_eq, Bool.not_eq_true', Bool.not_eq_false', gt_iff_lt, ge_iff_le] at h3
        refine RO.nil ?_
        refine Runs.condT rfl ?_
        refine Runs.has [(3, .d (.int _ _)), (4, .ref 0 0), (5, .ref 1 0), (6, .ref 2 0), (8, .d (.bool false)), (9, .d (.bool true))] ⟨rfl, rfl, rfl, rfl, rfl, rfl, trivial⟩ ?_
        refine Runs.rseq ?_
        refine RO.opv (v' := .d (.bool true)) (opv_move rfl) rfl ?_
        refine RO.opv (v' := .d (.bool true)) (opv_assign rfl) rfl ?_
        refine RO.nil ?_
        refine Runs.ret ?_
        refine thenQ_ret ?_
        refine EndQ.tmp (.inr rfl) rfl rfl 0 (by exact Nat.le_refl _) (by exact Nat.zero_le _) trivial ⟨?_, rfl⟩
        first | rfl | (refine bool_eq ?_; rw [norm_shift g1', same_refl])
      · try simp only [decide_eq_true_eq, decide_eq_false_iff_not, beq_iff_eq, beq_eq_false_iff_ne, bne_iff_ne, bne_eq_false_iff_eq, Int.not_lt, Int.not_le, ne_eq, Bool.not_eq_true', Bool.not_eq_false', gt_iff_lt, ge_iff_le] at h3
        refine RO.nil ?_
        refine Runs.condF rfl ?_
        refine Runs.skip ?_
        refine thenQ_normal ?_
        refine Runs.has [(3, .d (.int _ _)), (4, .ref 0 0), (5, .ref 1 0), (6, .ref 2 0), (8, .d (.bool false)), (9, .d (.bool true))] ⟨rfl, rfl, rfl, rfl, rfl, rfl, trivial⟩ ?_
        refine Runs.rseq ?_
        refine RO.opv (v' := .d (enc _)) (opv_load_term rfl rfl rfl) rfl ?_
        refine RO.opv (v' := .d (enc _)) (opv_load_term rfl rfl rfl) rfl ?_
        refine RO.opv (v' := .d (.bool _)) (opv_callF (variant_fn a b (by omega) (by omega)) rfl rfl rfl trivial) rfl ?_
        refine RO.opv (v' := .d (.bool _)) (opv_assign rfl) rfl ?_
        refine RO.nil ?_
        refine Runs.has [(3, .d (.int _ _)), (4, .ref 0 0), (5, .ref 1 0), (6, .ref 2 0), (8, .d (.bool false)), (9, .d (.bool true)), (10, .d (.bool _))] ⟨rfl, rfl, rfl, rfl, rfl, rfl, rfl, trivial⟩ ?_
        refine Runs.rseq ?_
        refine RO.opv (v' := .d (enc _)) (opv_load_term rfl rfl rfl) rfl ?_
        refine RO.opv (v' := .d (enc _)) (opv_load_term rfl rfl rfl) rfl ?_
        refine RO.opv (v' := .d (.bool _)) (opv_callF (variant_fn b c (by omega) (by omega)) rfl rfl rfl trivial) rfl ?_
        refine RO.opv (v' := .d (.bool _)) (opv_assign rfl) rfl ?_
        refine RO.nil ?_
        refine Runs.has [(3, .d (.int _ _)), (4, .ref 0 0), (5, .ref 1 0), (6, .ref 2 0), (8, .d (.bool false)), (9, .d (.bool true)), (10, .d (.bool _)), (11, .d (.bool _))] ⟨rfl, rfl, rfl, rfl, rfl, rfl, rfl, rfl, trivial⟩ ?_
        refine Runs.rseq ?_
        refine RO.opv (v' := .d (enc _)) (opv_load_term rfl rfl rfl) rfl ?_
        refine RO.opv (v' := .d (.int _ _)) (opv_callF (check_fn a 16 (by omega)) rfl rfl rfl trivial) rfl ?_
        refine RO.opv (v' := .d (.bool _)) (opv_bin rfl rfl rfl) rfl ?_
        refine RO.opv (v' := .d (.bool _)) (opv_assign rfl) rfl ?_
        refine RO.nil ?_
        refine Runs.has [(3, .d (.int _ _)), (4, .ref 0 0), (5, .ref 1 0), (6, .ref 2 0), (8, .d (.bool false)), (9, .d (.bool true)), (10, .d (.bool _)), (11, .d (.bool _)), (12, .d (.bool _))] ⟨rfl, rfl, rfl, rfl, rfl, rfl, rfl, rfl, rfl, trivial⟩ ?_
        refine Runs.seq ?_
        refine Runs.drawn (by kernel_rfl) [] [false, false, false, false, false, false, false, false, false, false, false, false, false, false, false, false, false, false, false, false, false, false, false, false, false, false, false, false, false, false, false, false, false, false, false, false, false, false, false] [false, false, false, false, false, false, false, false, false, false, false, false, false, false, false, false, false, false, false, false, false, false, false, false, false, false, false, false, false, false, false, false, false, false, false, false, false, false, false] (by decide +kernel) ?_
        refine RD.opv (v' := .d (.bool true)) (opv_move rfl) rfl ?_
        refine RD.opv (v' := .d (.bool true)) (opv_move rfl) rfl ?_
        refine RD.opgv (v' := .d (.bool _)) rfl (opv_move rfl) rfl ?_
        refine RD.opgv (v' := .d (enc _)) rfl (opv_load_term rfl rfl rfl) rfl ?_
        refine RD.opgv (v' := .d (enc _)) rfl (opv_load_term rfl rfl rfl) rfl ?_
        refine RD.opgv (v' := .d (.bool _)) rfl (opv_callF (variant_fn b a (by omega) (by omega)) rfl rfl rfl trivial) rfl ?_
        refine RD.opgv (v' := .d (.bool _)) rfl (opv_bool rfl rfl rfl) rfl ?_
        refine RD.opv (v' := .d (.bool _)) (opv_pick rfl rfl) rfl ?_
        refine RD.opc (opv_move rfl) (fun h4 => ?_) (fun h4 => ?_)
        · try simp only [decide_eq_true_eq, decide_eq_false_iff_not, beq_iff_eq, beq_eq_false_iff_ne, bne_iff_ne, bne_eq_false_iff_eq, Int.not_lt, Int.not_le, ne_eq, Bool.not_eq_true', Bool.not_eq_false', gt_iff_lt, ge_iff_le] at h4
          refine RD.opgv (v' := .d (.bool _)) rfl (opv_move rfl) rfl ?_
          refine RD.opgv (v' := .d (.bool _)) rfl (opv_not rfl rfl) rfl ?_
          refine RD.opgc rfl (opv_move rfl) (fun h5 => ?_) (fun h5 => ?_)
          · try simp only [decide_eq_true_eq, decide_eq_false_iff_not, beq_iff_eq, beq_eq_false_iff_ne, bne_iff_ne, bne_eq_false_iff_eq, Int.not_lt, Int.not_le, ne_eq, Bool.not_eq_true', Bool.not_eq_false', gt_iff_lt, ge_iff_le] at h5
            skip
            refine RD.off rfl ?_
            refine RD.off rfl ?_
            refine RD.opgv (v' := .d (.bool true)) rfl (opv_pick rfl rfl) rfl ?_
            refine RD.opgv (v' := .d (.bool true)) rfl (opv_move rfl) rfl ?_
            refine RD.off rfl ?_
            refine RD.off rfl ?_
            refine RD.off rfl ?_
            refine RD.opgv (v' := .d (.bool true)) rfl (opv_pick rfl rfl) rfl ?_
            refine RD.opv (v' := .d (.bool true)) (opv_pick rfl rfl) rfl ?_
            refine RD.opv (v' := .d (.bool true)) (opv_move rfl) rfl ?_
            refine RD.opgv (v' := .d (enc _)) rfl (opv_load_term rfl rfl rfl) rfl ?_
            refine RD.opgv (v' := .d (enc _)) rfl (opv_load_term rfl rfl rfl) rfl ?_
            refine RD.opgv (v' := .d (.bool _)) rfl (opv_callF (variant_fn a a (by omega) (by omega)) rfl rfl rfl trivial) rfl ?_
            refine RD.opv (v' := .d (.bool _)) (opv_pick rfl rfl) rfl ?_
            refine RD.opc (opv_move rfl) (fun h6 => ?_) (fun h6 => ?_)
            · try simp only [decide_eq_true_eq, decide_eq_false_iff_not, beq_iff_eq, beq_eq_false_iff_ne, bne_iff_ne, bne_eq_false_iff_eq, Int.not_lt, Int.not_le, ne_eq, Bool.not_eq_true', Bool.not_eq_false', gt_iff_lt, ge_iff_le] at h6
              refine RD.opgv (v' := .d (.bool _)) rfl (opv_move rfl) rfl ?_
              refine RD.opgv (v' := .d (.bool _)) rfl (opv_not rfl rfl) rfl ?_
              refine RD.opgc rfl (opv_move rfl) (fun h7 => ?_) (fun h7 => ?_)
              · try simp only [decide_eq_true_eq, decide_eq_false_iff_not, beq_iff_eq, beq_eq_false_iff_ne, bne_iff_ne, bne_eq_false_iff_eq, Int.not_lt, Int.not_le, ne_eq, Bool.not_eq_true', Bool.not_eq_false', gt_iff_lt, ge_iff_le] at h7
                refine RD.off rfl ?_
                refine RD.off rfl ?_
                refine RD.off rfl ?_
                refine RD.off rfl ?_
                refine RD.off rfl ?_
                refine RD.off rfl ?_
                refine RD.opgv (v' := .d (.bool true)) rfl (opv_pick rfl rfl) rfl ?_
                refine RD.opv (v' := .d (.bool true)) (opv_pick rfl rfl) rfl ?_
                refine RD.opv (v' := .d (.bool true)) (opv_assign rfl) rfl ?_
                refine RD.nil ?_
                refine thenQ_normal ?_
                refine Runs.ret ?_
                refine EndQ.tmp (.inr rfl) rfl rfl 0 (by exact Nat.le_refl _) (by exact Nat.zero_le _) trivial ⟨?_, rfl⟩
                first | rfl | (refine bool_eq ?_; rw [norm_shift g1', same_refl])
              · try simp only [decide_eq_true_eq, decide_eq_false_iff_not, beq_iff_eq, beq_eq_false_iff_ne, bne_iff_ne, bne_eq_false_iff_eq, Int.not_lt, Int.not_le, ne_eq, Bool.not_eq_true', Bool.not_eq_false', gt_iff_lt, ge_iff_le] at h7
                refine RD.opgv (v' := .d (enc _)) rfl (opv_load_term rfl rfl rfl) rfl ?_
                refine RD.opgv (v' := .d (enc _)) rfl (opv_load_term rfl rfl rfl) rfl ?_
                refine RD.opgv (v' := .d (.int _ _)) rfl (opv_move rfl) rfl ?_
                refine RD.opgv (v' := .d (.int _ _)) rfl (opv_conv (r := by_) rfl (wrap64 (by omega) (by omega))) rfl ?_
                refine RD.opgv (v' := .d (enc _)) rfl (opv_callF (shift_fn a by_ (by omega)) rfl rfl rfl trivial) rfl ?_
                refine RD.opgv (v' := .d (.bool _)) rfl (opv_callF (variant_fn a (a.shift by_) (by omega) (by rw [shift_bulk]; omega)) rfl rfl rfl trivial) rfl ?_
                refine RD.opgv (v' := .d (.bool _)) rfl (opv_pick rfl rfl) rfl ?_
                refine RD.opv (v' := .d (.bool _)) (opv_pick rfl rfl) rfl ?_
                refine RD.opv (v' := .d (.bool _)) (opv_assign rfl) rfl ?_
                refine RD.nil ?_
                refine thenQ_normal ?_
                refine Runs.ret ?_
                refine EndQ.tmp (.inr rfl) rfl rfl 0 (by exact Nat.le_refl _) (by exact Nat.zero_le _) trivial ⟨?_, rfl⟩
                first | rfl | (refine bool_eq ?_; rw [norm_shift g1', same_refl])
            · try simp only [decide_eq_true_eq, decide_eq_false_iff_not, beq_iff_eq, beq_eq_false_iff_ne, bne_iff_ne, bne_eq_false_iff_eq, Int.not_lt, Int.not_le, ne_eq, Bool.not_eq_true', Bool.not_eq_false', gt_iff_lt, ge_iff_le] at h6
              rw [same_refl] at h6; cases h6
          · try simp only [decide_eq_true_eq, decide_eq_false_iff_not, beq_iff_eq, beq_eq_false_iff_ne, bne_iff_ne, bne_eq_false_iff_eq, Int.not_lt, Int.not_le, ne_eq, Bool.not_eq_true', Bool.not_eq_false', gt_iff_lt, ge_iff_le] at h5
            have hx := h5
            refine RD.opgv (v' := .d (.bool _)) rfl (opv_move rfl) rfl ?_
            refine RD.opgv (v' := .d (.bool _)) rfl (opv_not rfl rfl) rfl ?_
            refine RD.opgv (v' := .d (.bool _)) rfl (opv_pick rfl rfl) rfl ?_
            refine RD.opgc rfl (opv_move rfl) (fun h8 => ?_) (fun h8 => ?_)
            · try simp only [decide_eq_true_eq, decide_eq_false_iff_not, beq_iff_eq, beq_eq_false_iff_ne, bne_iff_ne, bne_eq_false_iff_eq, Int.not_lt, Int.not_le, ne_eq, Bool.not_eq_true', Bool.not_eq_false', gt_iff_lt, ge_iff_le] at h8
              skip
              refine RD.off rfl ?_
              refine RD.off rfl ?_
              refine RD.off rfl ?_
              refine RD.opgv (v' := .d (.bool true)) rfl (opv_pick rfl rfl) rfl ?_
              refine RD.opv (v' := .d (.bool true)) (opv_pick rfl rfl) rfl ?_
              refine RD.opv (v' := .d (.bool true)) (opv_move rfl) rfl ?_
              refine RD.opgv (v' := .d (enc _)) rfl (opv_load_term rfl rfl rfl) rfl ?_
              refine RD.opgv (v' := .d (enc _)) rfl (opv_load_term rfl rfl rfl) rfl ?_
              refine RD.opgv (v' := .d (.bool _)) rfl (opv_callF (variant_fn a a (by omega) (by omega)) rfl rfl rfl trivial) rfl ?_
              refine RD.opv (v' := .d (.bool _)) (opv_pick rfl rfl) rfl ?_
              refine RD.opc (opv_move rfl) (fun h9 => ?_) (fun h9 => ?_)
              · try simp only [decide_eq_true_eq, decide_eq_false_iff_not, beq_iff_eq, beq_eq_false_iff_ne, bne_iff_ne, bne_eq_false_iff_eq, Int.not_lt, Int.not_le, ne_eq, Bool.not_eq_true', Bool.not_eq_false', gt_iff_lt, ge_iff_le] at h9
                refine RD.opgv (v' := .d (.bool _)) rfl (opv_move rfl) rfl ?_
                refine RD.opgv (v' := .d (.bool _)) rfl (opv_not rfl rfl) rfl ?_
                refine RD.opgc rfl (opv_move rfl) (fun h10 => ?_) (fun h10 => ?_)
                · try simp only [decide_eq_true_eq, decide_eq_false_iff_not, beq_iff_eq, beq_eq_false_iff_ne, bne_iff_ne, bne_eq_false_iff_eq, Int.not_lt, Int.not_le, ne_eq, Bool.not_eq_true', Bool.not_eq_false', gt_iff_lt, ge_iff_le] at h10
                  refine RD.off rfl ?_
                  refine RD.off rfl ?_
                  refine RD.off rfl ?_
                  refine RD.off rfl ?_
                  refine RD.off rfl ?_
                  refine RD.off rfl ?_
                  refine RD.opgv (v' := .d (.bool true)) rfl (opv_pick rfl rfl) rfl ?_
                  refine RD.opv (v' := .d (.bool true)) (opv_pick rfl rfl) rfl ?_
                  refine RD.opv (v' := .d (.bool true)) (opv_assign rfl) rfl ?_
                  refine RD.nil ?_
                  refine thenQ_normal ?_
                  refine Runs.ret ?_
                  refine EndQ.tmp (.inr rfl) rfl rfl 0 (by exact Nat.le_refl _) (by exact Nat.zero_le _) trivial ⟨?_, rfl⟩
                  first | rfl | (refine bool_eq ?_; rw [norm_shift g1', same_refl])
                · try simp only [decide_eq_true_eq, decide_eq_false_iff_not, beq_iff_eq, beq_eq_false_iff_ne, bne_iff_ne, bne_eq_false_iff_eq, Int.not_lt, Int.not_le, ne_eq, Bool.not_eq_true', Bool.not_eq_false', gt_iff_lt, ge_iff_le] at h10
                  refine RD.opgv (v' := .d (enc _)) rfl (opv_load_term rfl rfl rfl) rfl ?_
                  refine RD.opgv (v' := .d (enc _)) rfl (opv_load_term rfl rfl rfl) rfl ?_
                  refine RD.opgv (v' := .d (.int _ _)) rfl (opv_move rfl) rfl ?_
                  refine RD.opgv (v' := .d (.int _ _)) rfl (opv_conv (r := by_) rfl (wrap64 (by omega) (by omega))) rfl ?_
                  refine RD.opgv (v' := .d (enc _)) rfl (opv_callF (shift_fn a by_ (by omega)) rfl rfl rfl trivial) rfl ?_
                  refine RD.opgv (v' := .d (.bool _)) rfl (opv_callF (variant_fn a (a.shift by_) (by omega) (by rw [shift_bulk]; omega)) rfl rfl rfl trivial) rfl ?_
                  refine RD.opgv (v' := .d (.bool _)) rfl (opv_pick rfl rfl) rfl ?_
                  refine RD.opv (v' := .d (.bool _)) (opv_pick rfl rfl) rfl ?_
                  refine RD.opv (v' := .d (.bool _)) (opv_assign rfl) rfl ?_
                  refine RD.nil ?_
                  refine thenQ_normal ?_
                  refine Runs.ret ?_
                  refine EndQ.tmp (.inr rfl) rfl rfl 0 (by exact Nat.le_refl _) (by exact Nat.zero_le _) trivial ⟨?_, rfl⟩
                  first | rfl | (refine bool_eq ?_; rw [norm_shift g1', same_refl])
              · try simp only [decide_eq_true_eq, decide_eq_false_iff_not, beq_iff_eq, beq_eq_false_iff_ne, bne_iff_ne, bne_eq_false_iff_eq, Int.not_lt, Int.not_le, ne_eq, Bool.not_eq_true', Bool.not_eq_false', gt_iff_lt, ge_iff_le] at h9
                rw [same_refl] at h9; cases h9
            · try simp only [decide_eq_true_eq, decide_eq_false_iff_not, beq_iff_eq, beq_eq_false_iff_ne, bne_iff_ne, bne_eq_false_iff_eq, Int.not_lt, Int.not_le, ne_eq, Bool.not_eq_true', Bool.not_eq_false', gt_iff_lt, ge_iff_le] at h8
              have hy := h8
              refine RD.opgv (v' := .d (enc _)) rfl (opv_load_term rfl rfl rfl) rfl ?_
              refine RD.opgv (v' := .d (enc _)) rfl (opv_load_term rfl rfl rfl) rfl ?_
              refine RD.opgv (v' := .d (.bool _)) rfl (opv_callF (variant_fn a c (by omega) (by omega)) rfl rfl rfl trivial) rfl ?_
              refine RD.opgv (v' := .d (.bool _)) rfl (opv_pick rfl rfl) rfl ?_
              refine RD.opv (v' := .d (.bool _)) (opv_pick rfl rfl) rfl ?_
              refine RD.opc (opv_move rfl) (fun h11 => ?_) (fun h11 => ?_)
              · try simp only [decide_eq_true_eq, decide_eq_false_iff_not, beq_iff_eq, beq_eq_false_iff_ne, bne_iff_ne, bne_eq_false_iff_eq, Int.not_lt, Int.not_le, ne_eq, Bool.not_eq_true', Bool.not_eq_false', gt_iff_lt, ge_iff_le] at h11
                refine RD.opgv (v' := .d (enc _)) rfl (opv_load_term rfl rfl rfl) rfl ?_
                refine RD.opgv (v' := .d (enc _)) rfl (opv_load_term rfl rfl rfl) rfl ?_
                refine RD.opgv (v' := .d (.bool _)) rfl (opv_callF (variant_fn a a (by omega) (by omega)) rfl rfl rfl trivial) rfl ?_
                refine RD.opv (v' := .d (.bool _)) (opv_pick rfl rfl) rfl ?_
                refine RD.opc (opv_move rfl) (fun h12 => ?_) (fun h12 => ?_)
                · try simp only [decide_eq_true_eq, decide_eq_false_iff_not, beq_iff_eq, beq_eq_false_iff_ne, bne_iff_ne, bne_eq_false_iff_eq, Int.not_lt, Int.not_le, ne_eq, Bool.not_eq_true', Bool.not_eq_false', gt_iff_lt, ge_iff_le] at h12
                  refine RD.opgv (v' := .d (.bool _)) rfl (opv_move rfl) rfl ?_
                  refine RD.opgv (v' := .d (.bool _)) rfl (opv_not rfl rfl) rfl ?_
                  refine RD.opgc rfl (opv_move rfl) (fun h13 => ?_) (fun h13 => ?_)
                  · try simp only [decide_eq_true_eq, decide_eq_false_iff_not, beq_iff_eq, beq_eq_false_iff_ne, bne_iff_ne, bne_eq_false_iff_eq, Int.not_lt, Int.not_le, ne_eq, Bool.not_eq_true', Bool.not_eq_false', gt_iff_lt, ge_iff_le] at h13
                    refine RD.off rfl ?_
                    refine RD.off rfl ?_
                    refine RD.off rfl ?_
                    refine RD.off rfl ?_
                    refine RD.off rfl ?_
                    refine RD.off rfl ?_
                    refine RD.opgv (v' := .d (.bool true)) rfl (opv_pick rfl rfl) rfl ?_
                    refine RD.opv (v' := .d (.bool true)) (opv_pick rfl rfl) rfl ?_
                    refine RD.opv (v' := .d (.bool true)) (opv_assign rfl) rfl ?_
                    refine RD.nil ?_
                    refine thenQ_normal ?_
                    refine Runs.ret ?_
                    refine EndQ.tmp (.inr rfl) rfl rfl 0 (by exact Nat.le_refl _) (by exact Nat.zero_le _) trivial ⟨?_, rfl⟩
                    first | rfl | (refine bool_eq ?_; rw [norm_shift g1', same_refl])
                  · try simp only [decide_eq_true_eq, decide_eq_false_iff_not, beq_iff_eq, beq_eq_false_iff_ne, bne_iff_ne, bne_eq_false_iff_eq, Int.not_lt, Int.not_le, ne_eq, Bool.not_eq_true', Bool.not_eq_false', gt_iff_lt, ge_iff_le] at h13
                    refine RD.opgv (v' := .d (enc _)) rfl (opv_load_term rfl rfl rfl) rfl ?_
                    refine RD.opgv (v' := .d (enc _)) rfl (opv_load_term rfl rfl rfl) rfl ?_
                    refine RD.opgv (v' := .d (.int _ _)) rfl (opv_move rfl) rfl ?_
                    refine RD.opgv (v' := .d (.int _ _)) rfl (opv_conv (r := by_) rfl (wrap64 (by omega) (by omega))) rfl ?_
                    refine RD.opgv (v' := .d (enc _)) rfl (opv_callF (shift_fn a by_ (by omega)) rfl rfl rfl trivial) rfl ?_
                    refine RD.opgv (v' := .d (.bool _)) rfl (opv_callF (variant_fn a (a.shift by_) (by omega) (by rw [shift_bulk]; omega)) rfl rfl rfl trivial) rfl ?_
                    refine RD.opgv (v' := .d (.bool _)) rfl (opv_pick rfl rfl) rfl ?_
                    refine RD.opv (v' := .d (.bool _)) (opv_pick rfl rfl) rfl ?_
                    refine RD.opv (v' := .d (.bool _)) (opv_assign rfl) rfl ?_
                    refine RD.nil ?_
                    refine thenQ_normal ?_
                    refine Runs.ret ?_
                    refine EndQ.tmp (.inr rfl) rfl rfl 0 (by exact Nat.le_refl _) (by exact Nat.zero_le _) trivial ⟨?_, rfl⟩
                    first | rfl | (refine bool_eq ?_; rw [norm_shift g1', same_refl])
                · try simp only [decide_eq_true_eq, decide_eq_false_iff_not, beq_iff_eq, beq_eq_false_iff_ne, bne_iff_ne, bne_eq_false_iff_eq, Int.not_lt, Int.not_le, ne_eq, Bool.not_eq_true', Bool.not_eq_false', gt_iff_lt, ge_iff_le] at h12
                  rw [same_refl] at h12; cases h12
              · try simp only [decide_eq_true_eq, decide_eq_false_iff_not, beq_iff_eq, beq_eq_false_iff_ne, bne_iff_ne, bne_eq_false_iff_eq, Int.not_lt, Int.not_le, ne_eq, Bool.not_eq_true', Bool.not_eq_false', gt_iff_lt, ge_iff_le] at h11
                have e1 := (same_iff _ _).1 hx; have e2 := (same_iff _ _).1 hy; rw [e1, e2, same_refl] at h11; cases h11
        · try simp only [decide_eq_true_eq, decide_eq_false_iff_not, beq_iff_eq, beq_eq_false_iff_ne, bne_iff_ne, bne_eq_false_iff_eq, Int.not_lt, Int.not_le, ne_eq, Bool.not_eq_true', Bool.not_eq_false', gt_iff_lt, ge_iff_le] at h4
          exact absurd (same_comm _ _) h4
end Go.Proofs.Ytbpbpkolpldimaa.AM
