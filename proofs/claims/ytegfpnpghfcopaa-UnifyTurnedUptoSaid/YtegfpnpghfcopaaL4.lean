import Derived.Test.YtegfpnpghfcopaaL0
namespace Go.Proofs.Ytegfpnpghfcopaa.AM
open Go
set_option linter.unusedVariables false
set_option linter.unusedSimpArgs false
theorem unifyTurned_fn (a b : Term) (g1 : a.bulk ≤ 2 ^ 20) (_g1' : a.fits) (g2 : b.bulk ≤ 2 ^ 20) (_g2' : b.fits) : Fn Try.prog 6 [.d (enc a), .d (enc b)] [] (.d (.bool true)) [] := by
  have hq8 : 8 < 16 := by decide
  refine Does.run Try.func6 rfl Try.ntmps6 rfl fun K hK => ?_
  refine Runs.rseq ?_
  refine RO.opn (v' := .ref 0 0) (O' := [_]) (opv_box_term rfl) rfl rfl ?_
  refine RO.opn (v' := .ref 1 0) (O' := [_, _]) (opv_box_term rfl) rfl rfl ?_
  refine RO.opv (v' := .d (.bool false)) (opv_assign rfl) rfl ?_
  refine RO.nil ?_
  refine Runs.has [(2, .ref 0 0), (3, .ref 1 0), (4, .d (.bool false))] ⟨rfl, rfl, rfl, trivial⟩ ?_
  refine Runs.rseq ?_
  refine RO.opv (v' := .d (.bool true)) (opv_callF (shown_fn) rfl rfl rfl trivial) rfl ?_
  refine RO.opv (v' := .d (.bool true)) (opv_assign rfl) rfl ?_
  refine RO.nil ?_
  refine Runs.has [(2, .ref 0 0), (3, .ref 1 0), (4, .d (.bool false)), (5, .d (.bool true))] ⟨rfl, rfl, rfl, rfl, trivial⟩ ?_
  refine Runs.rseq ?_
  refine RO.opv (v' := .d (.list (encPs _))) (opv_callF (chainp_fn 8 (by decide)) rfl rfl rfl trivial) rfl ?_
  refine RO.opv (opv_callF (lnewC_fn 8 (by decide)) rfl rfl rfl ⟨trivial, trivial, trivial⟩) rfl ?_
  refine RO.opv (opv_move rfl) rfl ?_
  refine RO.opv (v' := .d (encL _)) (opv_extract rfl rfl) rfl ?_
  refine RO.opv (v' := .d (.int _ _)) (opv_extract rfl rfl) rfl ?_
  refine RO.opv (v' := .d (encL _)) (opv_assign rfl) rfl ?_
  refine RO.opv (v' := .d (.int _ _)) (opv_assign rfl) rfl ?_
  refine RO.nil ?_
  refine Runs.has [(2, .ref 0 0), (3, .ref 1 0), (4, .d (.bool false)), (5, .d (.bool true)), (6, .d (encL _))] ⟨rfl, rfl, rfl, rfl, rfl, trivial⟩ ?_
  refine Runs.rseq ?_
  refine RO.opn (v' := .ref 4 0) (O' := [_, _, _, _, _]) (opv_callN 2 (svars_fn) rfl rfl rfl) rfl rfl ?_
  refine RO.opv (v' := .ref 4 0) (opv_assign rfl) rfl ?_
  refine RO.nil ?_
  refine Runs.has [(2, .ref 0 0), (3, .ref 1 0), (4, .d (.bool false)), (5, .d (.bool true)), (6, .d (encL _)), (8, .ref 4 0)] ⟨rfl, rfl, rfl, rfl, rfl, rfl, trivial⟩ ?_
  refine Runs.seq ?_
  refine Runs.rseq ?_
  refine RO.opv (v' := .d (encL _)) (opv_move rfl) rfl ?_
  refine RO.opv (v' := .d (.bool false)) (opv_eqnil rfl rfl rfl) rfl ?_
  refine RO.opv (v' := .d (.bool false)) (opv_move rfl) rfl ?_
  refine RO.opgv (v' := .ref 4 0) rfl (opv_move rfl) rfl ?_
  refine RO.opgv (v' := .d (.bool false)) rfl (opv_eqnil_ref rfl rfl rfl) rfl ?_
  refine RO.opv (v' := .d (.bool false)) (opv_pick rfl rfl) rfl ?_
  refine RO.opv (v' := .d (.bool false)) (opv_move rfl) rfl ?_
  refine RO.opgv (v' := .d (enc _)) rfl (opv_load_term rfl rfl rfl) rfl ?_
  refine RO.opgv (v' := .d (.bool _)) rfl (opv_callF (may_fn a g1) rfl rfl rfl trivial) rfl ?_
  refine RO.opgv (v' := .d (.bool _)) rfl (opv_not rfl rfl) rfl ?_
  refine RO.opv (v' := .d (.bool _)) (opv_pick rfl rfl) rfl ?_
  refine RO.opc (opv_move rfl) (fun h1 => ?_) (fun h1 => ?_)
  · try simp only [decide_eq_true_eq, decide_eq_false_iff_not, beq_iff_eq, beq_eq_false_iff_ne, bne_iff_ne, bne_eq_false_iff_eq, Int.not_lt, Int.not_le, ne_eq, Bool.not_eq_true', Bool.not_eq_false', gt_iff_lt, ge_iff_le] at h1
    skip
    refine RO.off rfl ?_
    refine RO.off rfl ?_
    refine RO.off rfl ?_
    refine RO.opv (v' := .d (.bool true)) (opv_pick rfl rfl) rfl ?_
    refine RO.nil ?_
    refine Runs.condT rfl ?_
    refine Runs.has [(2, .ref 0 0), (3, .ref 1 0), (4, .d (.bool false)), (5, .d (.bool true)), (6, .d (encL _)), (8, .ref 4 0)] ⟨rfl, rfl, rfl, rfl, rfl, rfl, trivial⟩ ?_
    refine Runs.rseq ?_
    refine RO.opv (v' := .d (.bool true)) (opv_move rfl) rfl ?_
    refine RO.opv (v' := .d (.bool true)) (opv_move rfl) rfl ?_
    refine RO.opgv (v' := .d (encL _)) rfl (opv_move rfl) rfl ?_
    refine RO.opgv (v' := .d (.bool true)) rfl (opv_nenil rfl rfl rfl) rfl ?_
    refine RO.opv (v' := .d (.bool true)) (opv_pick rfl rfl) rfl ?_
    refine RO.opv (v' := .d (.bool true)) (opv_move rfl) rfl ?_
    refine RO.opgv (v' := .ref 4 0) rfl (opv_move rfl) rfl ?_
    refine RO.opgv (v' := .d (.bool true)) rfl (opv_nenil_ref rfl rfl rfl) rfl ?_
    refine RO.opv (v' := .d (.bool true)) (opv_pick rfl rfl) rfl ?_
    refine RO.opv (v' := .d (.bool true)) (opv_assign rfl) rfl ?_
    refine RO.nil ?_
    refine Runs.ret ?_
    refine thenQ_ret ?_
    refine EndQ.tmp (.inr rfl) rfl rfl 0 (by exact Nat.le_refl _) (by exact Nat.zero_le _) trivial ⟨?_, rfl⟩
    first
      | rfl
      | (refine bool_eq ?_; rw [hse.1] at hf0 ⊢; rw [un_ground hq8 ga gb ra rb hf0]; simp)
  · try simp only [decide_eq_true_eq, decide_eq_false_iff_not, beq_iff_eq, beq_eq_false_iff_ne, bne_iff_ne, bne_eq_false_iff_eq, Int.not_lt, Int.not_le, ne_eq, Bool.not_eq_true', Bool.not_eq_false', gt_iff_lt, ge_iff_le] at h1
    have ga := may_gd h1 g1
    refine RO.opgv (v' := .d (enc _)) rfl (opv_load_term rfl rfl rfl) rfl ?_
    refine RO.opgv (v' := .d (.bool _)) rfl (opv_callF (may_fn b g2) rfl rfl rfl trivial) rfl ?_
    refine RO.opgv (v' := .d (.bool _)) rfl (opv_not rfl rfl) rfl ?_
    refine RO.opc (opv_pick rfl rfl) (fun h2 => ?_) (fun h2 => ?_)
    · try simp only [decide_eq_true_eq, decide_eq_false_iff_not, beq_iff_eq, beq_eq_false_iff_ne, bne_iff_ne, bne_eq_false_iff_eq, Int.not_lt, Int.not_le, ne_eq, Bool.not_eq_true', Bool.not_eq_false', gt_iff_lt, ge_iff_le] at h2
      skip
      refine RO.nil ?_
      refine Runs.condT rfl ?_
      refine Runs.has [(2, .ref 0 0), (3, .ref 1 0), (4, .d (.bool false)), (5, .d (.bool true)), (6, .d (encL _)), (8, .ref 4 0)] ⟨rfl, rfl, rfl, rfl, rfl, rfl, trivial⟩ ?_
      refine Runs.rseq ?_
      refine RO.opv (v' := .d (.bool true)) (opv_move rfl) rfl ?_
      refine RO.opv (v' := .d (.bool true)) (opv_move rfl) rfl ?_
      refine RO.opgv (v' := .d (encL _)) rfl (opv_move rfl) rfl ?_
      refine RO.opgv (v' := .d (.bool true)) rfl (opv_nenil rfl rfl rfl) rfl ?_
      refine RO.opv (v' := .d (.bool true)) (opv_pick rfl rfl) rfl ?_
      refine RO.opv (v' := .d (.bool true)) (opv_move rfl) rfl ?_
      refine RO.opgv (v' := .ref 4 0) rfl (opv_move rfl) rfl ?_
      refine RO.opgv (v' := .d (.bool true)) rfl (opv_nenil_ref rfl rfl rfl) rfl ?_
      refine RO.opv (v' := .d (.bool true)) (opv_pick rfl rfl) rfl ?_
      refine RO.opv (v' := .d (.bool true)) (opv_assign rfl) rfl ?_
      refine RO.nil ?_
      refine Runs.ret ?_
      refine thenQ_ret ?_
      refine EndQ.tmp (.inr rfl) rfl rfl 0 (by exact Nat.le_refl _) (by exact Nat.zero_le _) trivial ⟨?_, rfl⟩
      first
        | rfl
        | (refine bool_eq ?_; rw [hse.1] at hf0 ⊢; rw [un_ground hq8 ga gb ra rb hf0]; simp)
    · try simp only [decide_eq_true_eq, decide_eq_false_iff_not, beq_iff_eq, beq_eq_false_iff_ne, bne_iff_ne, bne_eq_false_iff_eq, Int.not_lt, Int.not_le, ne_eq, Bool.not_eq_true', Bool.not_eq_false', gt_iff_lt, ge_iff_le] at h2
      have gb := may_gd h2 g2
      have hse := un_self hq8 ga
      obtain ⟨hgw, _⟩ := un_good hq8 (sv_sg 8) ga ga
      obtain ⟨hgz, _⟩ := un_good hq8 hgw ga gb
      refine RO.nil ?_
      refine Runs.condF rfl ?_
      refine Runs.skip ?_
      refine thenQ_normal ?_
      refine Runs.has [(2, .ref 0 0), (3, .ref 1 0), (4, .d (.bool false)), (5, .d (.bool true)), (6, .d (encL _)), (8, .ref 4 0)] ⟨rfl, rfl, rfl, rfl, rfl, rfl, trivial⟩ ?_
      refine Runs.rseq ?_
      refine RO.opv (v' := .ref 4 0) (opv_move rfl) rfl ?_
      refine RO.opv (v' := .d (encL _)) (opv_move rfl) rfl ?_
      refine RO.opv (v' := .d (enc _)) (opv_load_term rfl rfl rfl) rfl ?_
      refine RO.opv (v' := .d (enc _)) (opv_load_term rfl rfl rfl) rfl ?_
      refine RO.opn (O' := [_, _, _, _, _]) (opv_callS 2 3 (unify_fn 8 (by decide) sv (sv_sg 8) a a ga ga) rfl rfl rfl (Nat.le_of_ble_eq_true rfl) rfl (AV.bds_of_B _ rfl)) rfl rfl ?_
      refine RO.opv (opv_move rfl) rfl ?_
      refine RO.opv (v' := .d (.bool _)) (opv_extract rfl rfl) rfl ?_
      refine RO.opv (v' := .d (.int _ _)) (opv_extract rfl rfl) rfl ?_
      refine RO.opv (v' := .d (.int _ _)) (opv_extract rfl rfl) rfl ?_
      refine RO.opv (v' := .d (.bool _)) (opv_assign rfl) rfl ?_
      refine RO.opv (v' := .d (.int _ _)) (opv_assign rfl) rfl ?_
      refine RO.opv (v' := .d (.int _ _)) (opv_assign rfl) rfl ?_
      refine RO.nil ?_
      refine Runs.has [(2, .ref 0 0), (3, .ref 1 0), (4, .d (.bool false)), (5, .d (.bool true)), (6, .d (encL _)), (8, .ref 4 0), (9, .d (.bool _)), (11, .d (.int _ _))] ⟨rfl, rfl, rfl, rfl, rfl, rfl, rfl, rfl, trivial⟩ ?_
      refine Runs.seq ?_
      refine Runs.rseq ?_
      refine RO.opv (v' := .d (.int _ _)) (opv_move rfl) rfl ?_
      refine RO.opv (v' := .d (.bool _)) (opv_bin rfl rfl rfl) rfl ?_
      refine RO.opc (opv_move rfl) (fun h3 => ?_) (fun h3 => ?_)
      · try simp only [decide_eq_true_eq, decide_eq_false_iff_not, beq_iff_eq, beq_eq_false_iff_ne, bne_iff_ne, bne_eq_false_iff_eq, Int.not_lt, Int.not_le, ne_eq, Bool.not_eq_true', Bool.not_eq_false', gt_iff_lt, ge_iff_le] at h3
        have he0 := h3
        refine RO.opgv (v' := .d (.bool _)) rfl (opv_move rfl) rfl ?_
        refine RO.opgv (v' := .d (.bool _)) rfl (opv_not rfl rfl) rfl ?_
        refine RO.opgc rfl (opv_move rfl) (fun h4 => ?_) (fun h4 => ?_)
        · try simp only [decide_eq_true_eq, decide_eq_false_iff_not, beq_iff_eq, beq_eq_false_iff_ne, bne_iff_ne, bne_eq_false_iff_eq, Int.not_lt, Int.not_le, ne_eq, Bool.not_eq_true', Bool.not_eq_false', gt_iff_lt, ge_iff_le] at h4
          rcases hse.2 with e | e
          · rw [e] at h4; cases h4
          · rw [he0] at e; cases e
        · try simp only [decide_eq_true_eq, decide_eq_false_iff_not, beq_iff_eq, beq_eq_false_iff_ne, bne_iff_ne, bne_eq_false_iff_eq, Int.not_lt, Int.not_le, ne_eq, Bool.not_eq_true', Bool.not_eq_false', gt_iff_lt, ge_iff_le] at h4
          refine RO.opgv (v' := .ref 4 0) rfl (opv_move rfl) rfl ?_
          refine RO.opgn (v' := .d (.int _ _)) (O' := [_, _, _, _, _]) rfl (opv_callS 2 3 (mark_fn (matchS (C 8) sv [a] [a]).1) rfl rfl rfl (Nat.le_of_ble_eq_true rfl) rfl (AV.bds_of_B _ rfl)) rfl rfl ?_
          refine RO.opgv (v' := .d (.bool _)) rfl (opv_bin rfl rfl rfl) rfl ?_
          refine RO.opgv (v' := .d (.bool _)) rfl (opv_pick rfl rfl) rfl ?_
          refine RO.opc (opv_pick rfl rfl) (fun h5 => ?_) (fun h5 => ?_)
          · try simp only [decide_eq_true_eq, decide_eq_false_iff_not, beq_iff_eq, beq_eq_false_iff_ne, bne_iff_ne, bne_eq_false_iff_eq, Int.not_lt, Int.not_le, ne_eq, Bool.not_eq_true', Bool.not_eq_false', gt_iff_lt, ge_iff_le] at h5
            rw [hse.1, sv_tr] at h5; exact absurd rfl h5
          · try simp only [decide_eq_true_eq, decide_eq_false_iff_not, beq_iff_eq, beq_eq_false_iff_ne, bne_iff_ne, bne_eq_false_iff_eq, Int.not_lt, Int.not_le, ne_eq, Bool.not_eq_true', Bool.not_eq_false', gt_iff_lt, ge_iff_le] at h5
            refine RO.nil ?_
            refine Runs.condF rfl ?_
            refine Runs.skip ?_
            refine thenQ_normal ?_
            refine Runs.has [(2, .ref 0 0), (3, .ref 1 0), (4, .d (.bool false)), (5, .d (.bool true)), (6, .d (encL _)), (8, .ref 4 0)] ⟨rfl, rfl, rfl, rfl, rfl, rfl, trivial⟩ ?_
            refine Runs.seq ?_
            refine Runs.rseq ?_
            refine RO.opv (v' := .d (enc _)) (opv_load_term rfl rfl rfl) rfl ?_
            refine RO.opv (v' := .d (.list (ints _))) (opv_callF (vars_fn a (by omega)) rfl rfl rfl trivial) rfl ?_
            refine RO.opv (v' := .d (.int _ _)) (opv_len_ints rfl) rfl ?_
            refine RO.opv (v' := .d (.bool _)) (opv_bin rfl rfl rfl) rfl ?_
            refine RO.opc (opv_move rfl) (fun h6 => ?_) (fun h6 => ?_)
            · try simp only [decide_eq_true_eq, decide_eq_false_iff_not, beq_iff_eq, beq_eq_false_iff_ne, bne_iff_ne, bne_eq_false_iff_eq, Int.not_lt, Int.not_le, ne_eq, Bool.not_eq_true', Bool.not_eq_false', gt_iff_lt, ge_iff_le] at h6
              skip
              refine RO.off rfl ?_
              refine RO.off rfl ?_
              refine RO.off rfl ?_
              refine RO.off rfl ?_
              refine RO.opv (v' := .d (.bool true)) (opv_pick rfl rfl) rfl ?_
              refine RO.nil ?_
              refine Runs.condT rfl ?_
              refine Runs.has [(2, .ref 0 0), (3, .ref 1 0), (4, .d (.bool false)), (5, .d (.bool true)), (6, .d (encL _)), (8, .ref 4 0)] ⟨rfl, rfl, rfl, rfl, rfl, rfl, trivial⟩ ?_
              refine Runs.rseq ?_
              refine RO.opv (v' := .d (.bool true)) (opv_move rfl) rfl ?_
              refine RO.opv (v' := .d (.bool true)) (opv_assign rfl) rfl ?_
              refine RO.nil ?_
              refine Runs.ret ?_
              refine thenQ_ret ?_
              refine EndQ.tmp (.inr rfl) rfl rfl 0 (by exact Nat.le_refl _) (by exact Nat.zero_le _) trivial ⟨?_, rfl⟩
              first
                | rfl
                | (refine bool_eq ?_; rw [hse.1] at hf0 ⊢; rw [un_ground hq8 ga gb ra rb hf0]; simp)
            · try simp only [decide_eq_true_eq, decide_eq_false_iff_not, beq_iff_eq, beq_eq_false_iff_ne, bne_iff_ne, bne_eq_false_iff_eq, Int.not_lt, Int.not_le, ne_eq, Bool.not_eq_true', Bool.not_eq_false', gt_iff_lt, ge_iff_le] at h6
              have ra : Gr a := gr_vars.2 (List.eq_nil_of_length_eq_zero (by omega))
              refine RO.opgv (v' := .d (enc _)) rfl (opv_load_term rfl rfl rfl) rfl ?_
              refine RO.opgv (v' := .d (.list (ints _))) rfl (opv_callF (vars_fn b (by omega)) rfl rfl rfl trivial) rfl ?_
              refine RO.opgv (v' := .d (.int _ _)) rfl (opv_len_ints rfl) rfl ?_
              refine RO.opgv (v' := .d (.bool _)) rfl (opv_bin rfl rfl rfl) rfl ?_
              refine RO.opc (opv_pick rfl rfl) (fun h7 => ?_) (fun h7 => ?_)
              · try simp only [decide_eq_true_eq, decide_eq_false_iff_not, beq_iff_eq, beq_eq_false_iff_ne, bne_iff_ne, bne_eq_false_iff_eq, Int.not_lt, Int.not_le, ne_eq, Bool.not_eq_true', Bool.not_eq_false', gt_iff_lt, ge_iff_le] at h7
                skip
                refine RO.nil ?_
                refine Runs.condT rfl ?_
                refine Runs.has [(2, .ref 0 0), (3, .ref 1 0), (4, .d (.bool false)), (5, .d (.bool true)), (6, .d (encL _)), (8, .ref 4 0)] ⟨rfl, rfl, rfl, rfl, rfl, rfl, trivial⟩ ?_
                refine Runs.rseq ?_
                refine RO.opv (v' := .d (.bool true)) (opv_move rfl) rfl ?_
                refine RO.opv (v' := .d (.bool true)) (opv_assign rfl) rfl ?_
                refine RO.nil ?_
                refine Runs.ret ?_
                refine thenQ_ret ?_
                refine EndQ.tmp (.inr rfl) rfl rfl 0 (by exact Nat.le_refl _) (by exact Nat.zero_le _) trivial ⟨?_, rfl⟩
                first
                  | rfl
                  | (refine bool_eq ?_; rw [hse.1] at hf0 ⊢; rw [un_ground hq8 ga gb ra rb hf0]; simp)
              · try simp only [decide_eq_true_eq, decide_eq_false_iff_not, beq_iff_eq, beq_eq_false_iff_ne, bne_iff_ne, bne_eq_false_iff_eq, Int.not_lt, Int.not_le, ne_eq, Bool.not_eq_true', Bool.not_eq_false', gt_iff_lt, ge_iff_le] at h7
                have rb : Gr b := gr_vars.2 (List.eq_nil_of_length_eq_zero (by omega))
                have hsw := un_swap hq8 (s := sv) ga gb ra rb
                have hz : (matchS (C 8) (matchS (C 8) sv [a] [a]).1 [a] [b]).1 = sv := by rw [hse.1]; exact hsw.2
                have hba : (matchS (C 8) (matchS (C 8) (matchS (C 8) sv [a] [a]).1 [a] [b]).1 [b] [a]) = (matchS (C 8) (matchS (C 8) sv [a] [a]).1 [a] [b]) := by rw [hz, hse.1]; exact hsw.1
                refine RO.nil ?_
                refine Runs.condF rfl ?_
                refine Runs.skip ?_
                refine thenQ_normal ?_
                refine Runs.has [(2, .ref 0 0), (3, .ref 1 0), (4, .d (.bool false)), (5, .d (.bool true)), (6, .d (encL _)), (8, .ref 4 0)] ⟨rfl, rfl, rfl, rfl, rfl, rfl, trivial⟩ ?_
                refine Runs.rseq ?_
                refine RO.opv (v' := .ref 4 0) (opv_move rfl) rfl ?_
                refine RO.opv (v' := .d (encL _)) (opv_move rfl) rfl ?_
                refine RO.opv (v' := .d (enc _)) (opv_load_term rfl rfl rfl) rfl ?_
                refine RO.opv (v' := .d (enc _)) (opv_load_term rfl rfl rfl) rfl ?_
                refine RO.opn (O' := [_, _, _, _, _]) (opv_callS 2 3 (unify_fn 8 (by decide) (matchS (C 8) sv [a] [a]).1 hgw a b ga gb) rfl rfl rfl (Nat.le_of_ble_eq_true rfl) rfl (AV.bds_of_B _ rfl)) rfl rfl ?_
                refine RO.opv (opv_move rfl) rfl ?_
                refine RO.opv (v' := .d (.bool _)) (opv_extract rfl rfl) rfl ?_
                refine RO.opv (v' := .d (.int _ _)) (opv_extract rfl rfl) rfl ?_
                refine RO.opv (v' := .d (.int _ _)) (opv_extract rfl rfl) rfl ?_
                refine RO.opv (v' := .d (.bool _)) (opv_assign rfl) rfl ?_
                refine RO.opv (v' := .d (.int _ _)) (opv_assign rfl) rfl ?_
                refine RO.opv (v' := .d (.int _ _)) (opv_assign rfl) rfl ?_
                refine RO.nil ?_
                refine Runs.has [(2, .ref 0 0), (3, .ref 1 0), (4, .d (.bool false)), (5, .d (.bool true)), (6, .d (encL _)), (8, .ref 4 0), (12, .d (.bool _)), (13, .d (.int _ _)), (14, .d (.int _ _))] ⟨rfl, rfl, rfl, rfl, rfl, rfl, rfl, rfl, rfl, trivial⟩ ?_
                refine Runs.rseq ?_
                refine RO.opv (v' := .ref 4 0) (opv_move rfl) rfl ?_
                refine RO.opv (v' := .d (encL _)) (opv_move rfl) rfl ?_
                refine RO.opv (v' := .d (enc _)) (opv_load_term rfl rfl rfl) rfl ?_
                refine RO.opv (v' := .d (enc _)) (opv_load_term rfl rfl rfl) rfl ?_
                refine RO.opn (O' := [_, _, _, _, _]) (opv_callS 2 3 (unify_fn 8 (by decide) (matchS (C 8) (matchS (C 8) sv [a] [a]).1 [a] [b]).1 hgz b a gb ga) rfl rfl rfl (Nat.le_of_ble_eq_true rfl) rfl (AV.bds_of_B _ rfl)) rfl rfl ?_
                refine RO.opv (opv_move rfl) rfl ?_
                refine RO.opv (v' := .d (.bool _)) (opv_extract rfl rfl) rfl ?_
                refine RO.opv (v' := .d (.int _ _)) (opv_extract rfl rfl) rfl ?_
                refine RO.opv (v' := .d (.int _ _)) (opv_extract rfl rfl) rfl ?_
                refine RO.opv (v' := .d (.bool _)) (opv_assign rfl) rfl ?_
                refine RO.opv (v' := .d (.int _ _)) (opv_assign rfl) rfl ?_
                refine RO.opv (v' := .d (.int _ _)) (opv_assign rfl) rfl ?_
                refine RO.nil ?_
                refine Runs.has [(2, .ref 0 0), (3, .ref 1 0), (4, .d (.bool false)), (5, .d (.bool true)), (12, .d (.bool _)), (13, .d (.int _ _)), (14, .d (.int _ _)), (15, .d (.bool _)), (16, .d (.int _ _)), (17, .d (.int _ _))] ⟨rfl, rfl, rfl, rfl, rfl, rfl, rfl, rfl, rfl, rfl, trivial⟩ ?_
                refine Runs.seq ?_
                refine Runs.drawn (by kernel_rfl) [] [false, false, false, false, false, false, false, false, false, false, false, false, false, false, false, false, false, false, false, false, false, false, false, false, false, false, false, false, false, false] [false, false, false, false, false, false, false, false, false, false, false, false, false, false, false, false, false, false, false, false, false, false, false, false, false, false, false, false, false, false] (by decide +kernel) ?_
                refine RD.opv (v' := .d (.bool true)) (opv_move rfl) rfl ?_
                refine RD.opv (v' := .d (.bool true)) (opv_move rfl) rfl ?_
                refine RD.opgv (v' := .d (.bool _)) rfl (opv_move rfl) rfl ?_
                refine RD.opgv (v' := .d (.bool _)) rfl (opv_move rfl) rfl ?_
                refine RD.opgv (v' := .d (.bool _)) rfl (opv_bool rfl rfl rfl) rfl ?_
                refine RD.opv (v' := .d (.bool _)) (opv_pick rfl rfl) rfl ?_
                refine RD.opc (opv_move rfl) (fun h8 => ?_) (fun h8 => ?_)
                · try simp only [decide_eq_true_eq, decide_eq_false_iff_not, beq_iff_eq, beq_eq_false_iff_ne, bne_iff_ne, bne_eq_false_iff_eq, Int.not_lt, Int.not_le, ne_eq, Bool.not_eq_true', Bool.not_eq_false', gt_iff_lt, ge_iff_le] at h8
                  refine RD.opgv (v' := .d (.int _ _)) rfl (opv_move rfl) rfl ?_
                  refine RD.opgv (v' := .d (.int _ _)) rfl (opv_move rfl) rfl ?_
                  refine RD.opgv (v' := .d (.bool _)) rfl (opv_bin rfl rfl rfl) rfl ?_
                  refine RD.opv (v' := .d (.bool _)) (opv_pick rfl rfl) rfl ?_
                  refine RD.opc (opv_move rfl) (fun h9 => ?_) (fun h9 => ?_)
                  · try simp only [decide_eq_true_eq, decide_eq_false_iff_not, beq_iff_eq, beq_eq_false_iff_ne, bne_iff_ne, bne_eq_false_iff_eq, Int.not_lt, Int.not_le, ne_eq, Bool.not_eq_true', Bool.not_eq_false', gt_iff_lt, ge_iff_le] at h9
                    refine RD.opgv (v' := .d (.int _ _)) rfl (opv_move rfl) rfl ?_
                    refine RD.opgv (v' := .d (.int _ _)) rfl (opv_move rfl) rfl ?_
                    refine RD.opgv (v' := .d (.bool _)) rfl (opv_bin rfl rfl rfl) rfl ?_
                    refine RD.opv (v' := .d (.bool _)) (opv_pick rfl rfl) rfl ?_
                    refine RD.opc (opv_move rfl) (fun h10 => ?_) (fun h10 => ?_)
                    · try simp only [decide_eq_true_eq, decide_eq_false_iff_not, beq_iff_eq, beq_eq_false_iff_ne, bne_iff_ne, bne_eq_false_iff_eq, Int.not_lt, Int.not_le, ne_eq, Bool.not_eq_true', Bool.not_eq_false', gt_iff_lt, ge_iff_le] at h10
                      refine RD.opgv (v' := .d (.int _ _)) rfl (opv_move rfl) rfl ?_
                      refine RD.opgv (v' := .d (.bool _)) rfl (opv_bin rfl rfl rfl) rfl ?_
                      refine RD.opgc rfl (opv_move rfl) (fun h11 => ?_) (fun h11 => ?_)
                      · try simp only [decide_eq_true_eq, decide_eq_false_iff_not, beq_iff_eq, beq_eq_false_iff_ne, bne_iff_ne, bne_eq_false_iff_eq, Int.not_lt, Int.not_le, ne_eq, Bool.not_eq_true', Bool.not_eq_false', gt_iff_lt, ge_iff_le] at h11
                        skip
                        refine RD.off rfl ?_
                        refine RD.off rfl ?_
                        refine RD.off rfl ?_
                        refine RD.off rfl ?_
                        refine RD.off rfl ?_
                        refine RD.off rfl ?_
                        refine RD.off rfl ?_
                        refine RD.opgv (v' := .d (.bool true)) rfl (opv_pick rfl rfl) rfl ?_
                        refine RD.opv (v' := .d (.bool true)) (opv_pick rfl rfl) rfl ?_
                        refine RD.opv (v' := .d (.bool true)) (opv_assign rfl) rfl ?_
                        refine RD.nil ?_
                        refine thenQ_normal ?_
                        refine Runs.ret ?_
                        refine EndQ.tmp (.inr rfl) rfl rfl 0 (by exact Nat.le_refl _) (by exact Nat.zero_le _) trivial ⟨?_, rfl⟩
                        first
                          | rfl
                          | (refine bool_eq ?_; rw [hse.1] at hf0 ⊢; rw [un_ground hq8 ga gb ra rb hf0]; simp)
                      · try simp only [decide_eq_true_eq, decide_eq_false_iff_not, beq_iff_eq, beq_eq_false_iff_ne, bne_iff_ne, bne_eq_false_iff_eq, Int.not_lt, Int.not_le, ne_eq, Bool.not_eq_true', Bool.not_eq_false', gt_iff_lt, ge_iff_le] at h11
                        have hf0 : (matchS (C 8) (matchS (C 8) sv [a] [a]).1 [a] [b]).2.2.2 = 0 := by simpa using h11
                        refine RD.opgv (v' := .d (.bool _)) rfl (opv_move rfl) rfl ?_
                        refine RD.opgv (v' := .d (enc _)) rfl (opv_load_term rfl rfl rfl) rfl ?_
                        refine RD.opgv (v' := .d (enc _)) rfl (opv_callF (erase_fn a (by omega)) rfl rfl rfl trivial) rfl ?_
                        refine RD.opgv (v' := .d (enc _)) rfl (opv_load_term rfl rfl rfl) rfl ?_
                        refine RD.opgv (v' := .d (enc _)) rfl (opv_callF (erase_fn b (by omega)) rfl rfl rfl trivial) rfl ?_
                        refine RD.opgv (v' := .d (.bool _)) rfl (opv_callF (same_fn a.erase b.erase (by have := erase_bulk a; omega) (by have := erase_bulk b; omega)) rfl rfl rfl trivial) rfl ?_
                        refine RD.opgv (v' := .d (.bool _)) rfl (opv_bool rfl rfl rfl) rfl ?_
                        refine RD.opgv (v' := .d (.bool _)) rfl (opv_pick rfl rfl) rfl ?_
                        refine RD.opv (v' := .d (.bool _)) (opv_pick rfl rfl) rfl ?_
                        refine RD.opv (v' := .d (.bool _)) (opv_assign rfl) rfl ?_
                        refine RD.nil ?_
                        refine thenQ_normal ?_
                        refine Runs.ret ?_
                        refine EndQ.tmp (.inr rfl) rfl rfl 0 (by exact Nat.le_refl _) (by exact Nat.zero_le _) trivial ⟨?_, rfl⟩
                        first
                          | rfl
                          | (refine bool_eq ?_; rw [hse.1] at hf0 ⊢; rw [un_ground hq8 ga gb ra rb hf0]; simp)
                    · try simp only [decide_eq_true_eq, decide_eq_false_iff_not, beq_iff_eq, beq_eq_false_iff_ne, bne_iff_ne, bne_eq_false_iff_eq, Int.not_lt, Int.not_le, ne_eq, Bool.not_eq_true', Bool.not_eq_false', gt_iff_lt, ge_iff_le] at h10
                      rw [hba] at h10; exact absurd rfl h10
                  · try simp only [decide_eq_true_eq, decide_eq_false_iff_not, beq_iff_eq, beq_eq_false_iff_ne, bne_iff_ne, bne_eq_false_iff_eq, Int.not_lt, Int.not_le, ne_eq, Bool.not_eq_true', Bool.not_eq_false', gt_iff_lt, ge_iff_le] at h9
                    rw [hba] at h9; exact absurd rfl h9
                · try simp only [decide_eq_true_eq, decide_eq_false_iff_not, beq_iff_eq, beq_eq_false_iff_ne, bne_iff_ne, bne_eq_false_iff_eq, Int.not_lt, Int.not_le, ne_eq, Bool.not_eq_true', Bool.not_eq_false', gt_iff_lt, ge_iff_le] at h8
                  rw [hba] at h8; simp at h8
      · try simp only [decide_eq_true_eq, decide_eq_false_iff_not, beq_iff_eq, beq_eq_false_iff_ne, bne_iff_ne, bne_eq_false_iff_eq, Int.not_lt, Int.not_le, ne_eq, Bool.not_eq_true', Bool.not_eq_false', gt_iff_lt, ge_iff_le] at h3
        have he0 := h3
        refine RO.off rfl ?_
        refine RO.off rfl ?_
        refine RO.off rfl ?_
        refine RO.off rfl ?_
        refine RO.off rfl ?_
        refine RO.off rfl ?_
        refine RO.off rfl ?_
        refine RO.opv (v' := .d (.bool false)) (opv_pick rfl rfl) rfl ?_
        refine RO.nil ?_
        refine Runs.condF rfl ?_
        refine Runs.skip ?_
        refine thenQ_normal ?_
        refine Runs.has [(2, .ref 0 0), (3, .ref 1 0), (4, .d (.bool false)), (5, .d (.bool true)), (6, .d (encL _)), (8, .ref 4 0)] ⟨rfl, rfl, rfl, rfl, rfl, rfl, trivial⟩ ?_
        refine Runs.seq ?_
        refine Runs.rseq ?_
        refine RO.opv (v' := .d (enc _)) (opv_load_term rfl rfl rfl) rfl ?_
        refine RO.opv (v' := .d (.list (ints _))) (opv_callF (vars_fn a (by omega)) rfl rfl rfl trivial) rfl ?_
        refine RO.opv (v' := .d (.int _ _)) (opv_len_ints rfl) rfl ?_
        refine RO.opv (v' := .d (.bool _)) (opv_bin rfl rfl rfl) rfl ?_
        refine RO.opc (opv_move rfl) (fun h12 => ?_) (fun h12 => ?_)
        · try simp only [decide_eq_true_eq, decide_eq_false_iff_not, beq_iff_eq, beq_eq_false_iff_ne, bne_iff_ne, bne_eq_false_iff_eq, Int.not_lt, Int.not_le, ne_eq, Bool.not_eq_true', Bool.not_eq_false', gt_iff_lt, ge_iff_le] at h12
          skip
          refine RO.off rfl ?_
          refine RO.off rfl ?_
          refine RO.off rfl ?_
          refine RO.off rfl ?_
          refine RO.opv (v' := .d (.bool true)) (opv_pick rfl rfl) rfl ?_
          refine RO.nil ?_
          refine Runs.condT rfl ?_
          refine Runs.has [(2, .ref 0 0), (3, .ref 1 0), (4, .d (.bool false)), (5, .d (.bool true)), (6, .d (encL _)), (8, .ref 4 0)] ⟨rfl, rfl, rfl, rfl, rfl, rfl, trivial⟩ ?_
          refine Runs.rseq ?_
          refine RO.opv (v' := .d (.bool true)) (opv_move rfl) rfl ?_
          refine RO.opv (v' := .d (.bool true)) (opv_assign rfl) rfl ?_
          refine RO.nil ?_
          refine Runs.ret ?_
          refine thenQ_ret ?_
          refine EndQ.tmp (.inr rfl) rfl rfl 0 (by exact Nat.le_refl _) (by exact Nat.zero_le _) trivial ⟨?_, rfl⟩
          first
            | rfl
            | (refine bool_eq ?_; rw [hse.1] at hf0 ⊢; rw [un_ground hq8 ga gb ra rb hf0]; simp)
        · try simp only [decide_eq_true_eq, decide_eq_false_iff_not, beq_iff_eq, beq_eq_false_iff_ne, bne_iff_ne, bne_eq_false_iff_eq, Int.not_lt, Int.not_le, ne_eq, Bool.not_eq_true', Bool.not_eq_false', gt_iff_lt, ge_iff_le] at h12
          have ra : Gr a := gr_vars.2 (List.eq_nil_of_length_eq_zero (by omega))
          refine RO.opgv (v' := .d (enc _)) rfl (opv_load_term rfl rfl rfl) rfl ?_
          refine RO.opgv (v' := .d (.list (ints _))) rfl (opv_callF (vars_fn b (by omega)) rfl rfl rfl trivial) rfl ?_
          refine RO.opgv (v' := .d (.int _ _)) rfl (opv_len_ints rfl) rfl ?_
          refine RO.opgv (v' := .d (.bool _)) rfl (opv_bin rfl rfl rfl) rfl ?_
          refine RO.opc (opv_pick rfl rfl) (fun h13 => ?_) (fun h13 => ?_)
          · try simp only [decide_eq_true_eq, decide_eq_false_iff_not, beq_iff_eq, beq_eq_false_iff_ne, bne_iff_ne, bne_eq_false_iff_eq, Int.not_lt, Int.not_le, ne_eq, Bool.not_eq_true', Bool.not_eq_false', gt_iff_lt, ge_iff_le] at h13
            skip
            refine RO.nil ?_
            refine Runs.condT rfl ?_
            refine Runs.has [(2, .ref 0 0), (3, .ref 1 0), (4, .d (.bool false)), (5, .d (.bool true)), (6, .d (encL _)), (8, .ref 4 0)] ⟨rfl, rfl, rfl, rfl, rfl, rfl, trivial⟩ ?_
            refine Runs.rseq ?_
            refine RO.opv (v' := .d (.bool true)) (opv_move rfl) rfl ?_
            refine RO.opv (v' := .d (.bool true)) (opv_assign rfl) rfl ?_
            refine RO.nil ?_
            refine Runs.ret ?_
            refine thenQ_ret ?_
            refine EndQ.tmp (.inr rfl) rfl rfl 0 (by exact Nat.le_refl _) (by exact Nat.zero_le _) trivial ⟨?_, rfl⟩
            first
              | rfl
              | (refine bool_eq ?_; rw [hse.1] at hf0 ⊢; rw [un_ground hq8 ga gb ra rb hf0]; simp)
          · try simp only [decide_eq_true_eq, decide_eq_false_iff_not, beq_iff_eq, beq_eq_false_iff_ne, bne_iff_ne, bne_eq_false_iff_eq, Int.not_lt, Int.not_le, ne_eq, Bool.not_eq_true', Bool.not_eq_false', gt_iff_lt, ge_iff_le] at h13
            have rb : Gr b := gr_vars.2 (List.eq_nil_of_length_eq_zero (by omega))
            have hsw := un_swap hq8 (s := sv) ga gb ra rb
            have hz : (matchS (C 8) (matchS (C 8) sv [a] [a]).1 [a] [b]).1 = sv := by rw [hse.1]; exact hsw.2
            have hba : (matchS (C 8) (matchS (C 8) (matchS (C 8) sv [a] [a]).1 [a] [b]).1 [b] [a]) = (matchS (C 8) (matchS (C 8) sv [a] [a]).1 [a] [b]) := by rw [hz, hse.1]; exact hsw.1
            refine RO.nil ?_
            refine Runs.condF rfl ?_
            refine Runs.skip ?_
            refine thenQ_normal ?_
            refine Runs.has [(2, .ref 0 0), (3, .ref 1 0), (4, .d (.bool false)), (5, .d (.bool true)), (6, .d (encL _)), (8, .ref 4 0)] ⟨rfl, rfl, rfl, rfl, rfl, rfl, trivial⟩ ?_
            refine Runs.rseq ?_
            refine RO.opv (v' := .ref 4 0) (opv_move rfl) rfl ?_
            refine RO.opv (v' := .d (encL _)) (opv_move rfl) rfl ?_
            refine RO.opv (v' := .d (enc _)) (opv_load_term rfl rfl rfl) rfl ?_
            refine RO.opv (v' := .d (enc _)) (opv_load_term rfl rfl rfl) rfl ?_
            refine RO.opn (O' := [_, _, _, _, _]) (opv_callS 2 3 (unify_fn 8 (by decide) (matchS (C 8) sv [a] [a]).1 hgw a b ga gb) rfl rfl rfl (Nat.le_of_ble_eq_true rfl) rfl (AV.bds_of_B _ rfl)) rfl rfl ?_
            refine RO.opv (opv_move rfl) rfl ?_
            refine RO.opv (v' := .d (.bool _)) (opv_extract rfl rfl) rfl ?_
            refine RO.opv (v' := .d (.int _ _)) (opv_extract rfl rfl) rfl ?_
            refine RO.opv (v' := .d (.int _ _)) (opv_extract rfl rfl) rfl ?_
            refine RO.opv (v' := .d (.bool _)) (opv_assign rfl) rfl ?_
            refine RO.opv (v' := .d (.int _ _)) (opv_assign rfl) rfl ?_
            refine RO.opv (v' := .d (.int _ _)) (opv_assign rfl) rfl ?_
            refine RO.nil ?_
            refine Runs.has [(2, .ref 0 0), (3, .ref 1 0), (4, .d (.bool false)), (5, .d (.bool true)), (6, .d (encL _)), (8, .ref 4 0), (12, .d (.bool _)), (13, .d (.int _ _)), (14, .d (.int _ _))] ⟨rfl, rfl, rfl, rfl, rfl, rfl, rfl, rfl, rfl, trivial⟩ ?_
            refine Runs.rseq ?_
            refine RO.opv (v' := .ref 4 0) (opv_move rfl) rfl ?_
            refine RO.opv (v' := .d (encL _)) (opv_move rfl) rfl ?_
            refine RO.opv (v' := .d (enc _)) (opv_load_term rfl rfl rfl) rfl ?_
            refine RO.opv (v' := .d (enc _)) (opv_load_term rfl rfl rfl) rfl ?_
            refine RO.opn (O' := [_, _, _, _, _]) (opv_callS 2 3 (unify_fn 8 (by decide) (matchS (C 8) (matchS (C 8) sv [a] [a]).1 [a] [b]).1 hgz b a gb ga) rfl rfl rfl (Nat.le_of_ble_eq_true rfl) rfl (AV.bds_of_B _ rfl)) rfl rfl ?_
            refine RO.opv (opv_move rfl) rfl ?_
            refine RO.opv (v' := .d (.bool _)) (opv_extract rfl rfl) rfl ?_
            refine RO.opv (v' := .d (.int _ _)) (opv_extract rfl rfl) rfl ?_
            refine RO.opv (v' := .d (.int _ _)) (opv_extract rfl rfl) rfl ?_
            refine RO.opv (v' := .d (.bool _)) (opv_assign rfl) rfl ?_
            refine RO.opv (v' := .d (.int _ _)) (opv_assign rfl) rfl ?_
            refine RO.opv (v' := .d (.int _ _)) (opv_assign rfl) rfl ?_
            refine RO.nil ?_
            refine Runs.has [(2, .ref 0 0), (3, .ref 1 0), (4, .d (.bool false)), (5, .d (.bool true)), (12, .d (.bool _)), (13, .d (.int _ _)), (14, .d (.int _ _)), (15, .d (.bool _)), (16, .d (.int _ _)), (17, .d (.int _ _))] ⟨rfl, rfl, rfl, rfl, rfl, rfl, rfl, rfl, rfl, rfl, trivial⟩ ?_
            refine Runs.seq ?_
            refine Runs.drawn (by kernel_rfl) [] [false, false, false, false, false, false, false, false, false, false, false, false, false, false, false, false, false, false, false, false, false, false, false, false, false, false, false, false, false, false] [false, false, false, false, false, false, false, false, false, false, false, false, false, false, false, false, false, false, false, false, false, false, false, false, false, false, false, false, false, false] (by decide +kernel) ?_
            refine RD.opv (v' := .d (.bool true)) (opv_move rfl) rfl ?_
            refine RD.opv (v' := .d (.bool true)) (opv_move rfl) rfl ?_
            refine RD.opgv (v' := .d (.bool _)) rfl (opv_move rfl) rfl ?_
            refine RD.opgv (v' := .d (.bool _)) rfl (opv_move rfl) rfl ?_
            refine RD.opgv (v' := .d (.bool _)) rfl (opv_bool rfl rfl rfl) rfl ?_
            refine RD.opv (v' := .d (.bool _)) (opv_pick rfl rfl) rfl ?_
            refine RD.opc (opv_move rfl) (fun h14 => ?_) (fun h14 => ?_)
            · try simp only [decide_eq_true_eq, decide_eq_false_iff_not, beq_iff_eq, beq_eq_false_iff_ne, bne_iff_ne, bne_eq_false_iff_eq, Int.not_lt, Int.not_le, ne_eq, Bool.not_eq_true', Bool.not_eq_false', gt_iff_lt, ge_iff_le] at h14
              refine RD.opgv (v' := .d (.int _ _)) rfl (opv_move rfl) rfl ?_
              refine RD.opgv (v' := .d (.int _ _)) rfl (opv_move rfl) rfl ?_
              refine RD.opgv (v' := .d (.bool _)) rfl (opv_bin rfl rfl rfl) rfl ?_
              refine RD.opv (v' := .d (.bool _)) (opv_pick rfl rfl) rfl ?_
              refine RD.opc (opv_move rfl) (fun h15 => ?_) (fun h15 => ?_)
              · try simp only [decide_eq_true_eq, decide_eq_false_iff_not, beq_iff_eq, beq_eq_false_iff_ne, bne_iff_ne, bne_eq_false_iff_eq, Int.not_lt, Int.not_le, ne_eq, Bool.not_eq_true', Bool.not_eq_false', gt_iff_lt, ge_iff_le] at h15
                refine RD.opgv (v' := .d (.int _ _)) rfl (opv_move rfl) rfl ?_
                refine RD.opgv (v' := .d (.int _ _)) rfl (opv_move rfl) rfl ?_
                refine RD.opgv (v' := .d (.bool _)) rfl (opv_bin rfl rfl rfl) rfl ?_
                refine RD.opv (v' := .d (.bool _)) (opv_pick rfl rfl) rfl ?_
                refine RD.opc (opv_move rfl) (fun h16 => ?_) (fun h16 => ?_)
                · try simp only [decide_eq_true_eq, decide_eq_false_iff_not, beq_iff_eq, beq_eq_false_iff_ne, bne_iff_ne, bne_eq_false_iff_eq, Int.not_lt, Int.not_le, ne_eq, Bool.not_eq_true', Bool.not_eq_false', gt_iff_lt, ge_iff_le] at h16
                  refine RD.opgv (v' := .d (.int _ _)) rfl (opv_move rfl) rfl ?_
                  refine RD.opgv (v' := .d (.bool _)) rfl (opv_bin rfl rfl rfl) rfl ?_
                  refine RD.opgc rfl (opv_move rfl) (fun h17 => ?_) (fun h17 => ?_)
                  · try simp only [decide_eq_true_eq, decide_eq_false_iff_not, beq_iff_eq, beq_eq_false_iff_ne, bne_iff_ne, bne_eq_false_iff_eq, Int.not_lt, Int.not_le, ne_eq, Bool.not_eq_true', Bool.not_eq_false', gt_iff_lt, ge_iff_le] at h17
                    skip
                    refine RD.off rfl ?_
                    refine RD.off rfl ?_
                    refine RD.off rfl ?_
                    refine RD.off rfl ?_
                    refine RD.off rfl ?_
                    refine RD.off rfl ?_
                    refine RD.off rfl ?_
                    refine RD.opgv (v' := .d (.bool true)) rfl (opv_pick rfl rfl) rfl ?_
                    refine RD.opv (v' := .d (.bool true)) (opv_pick rfl rfl) rfl ?_
                    refine RD.opv (v' := .d (.bool true)) (opv_assign rfl) rfl ?_
                    refine RD.nil ?_
                    refine thenQ_normal ?_
                    refine Runs.ret ?_
                    refine EndQ.tmp (.inr rfl) rfl rfl 0 (by exact Nat.le_refl _) (by exact Nat.zero_le _) trivial ⟨?_, rfl⟩
                    first
                      | rfl
                      | (refine bool_eq ?_; rw [hse.1] at hf0 ⊢; rw [un_ground hq8 ga gb ra rb hf0]; simp)
                  · try simp only [decide_eq_true_eq, decide_eq_false_iff_not, beq_iff_eq, beq_eq_false_iff_ne, bne_iff_ne, bne_eq_false_iff_eq, Int.not_lt, Int.not_le, ne_eq, Bool.not_eq_true', Bool.not_eq_false', gt_iff_lt, ge_iff_le] at h17
                    have hf0 : (matchS (C 8) (matchS (C 8) sv [a] [a]).1 [a] [b]).2.2.2 = 0 := by simpa using h17
                    refine RD.opgv (v' := .d (.bool _)) rfl (opv_move rfl) rfl ?_
                    refine RD.opgv (v' := .d (enc _)) rfl (opv_load_term rfl rfl rfl) rfl ?_
                    refine RD.opgv (v' := .d (enc _)) rfl (opv_callF (erase_fn a (by omega)) rfl rfl rfl trivial) rfl ?_
                    refine RD.opgv (v' := .d (enc _)) rfl (opv_load_term rfl rfl rfl) rfl ?_
                    refine RD.opgv (v' := .d (enc _)) rfl (opv_callF (erase_fn b (by omega)) rfl rfl rfl trivial) rfl ?_
                    refine RD.opgv (v' := .d (.bool _)) rfl (opv_callF (same_fn a.erase b.erase (by have := erase_bulk a; omega) (by have := erase_bulk b; omega)) rfl rfl rfl trivial) rfl ?_
                    refine RD.opgv (v' := .d (.bool _)) rfl (opv_bool rfl rfl rfl) rfl ?_
                    refine RD.opgv (v' := .d (.bool _)) rfl (opv_pick rfl rfl) rfl ?_
                    refine RD.opv (v' := .d (.bool _)) (opv_pick rfl rfl) rfl ?_
                    refine RD.opv (v' := .d (.bool _)) (opv_assign rfl) rfl ?_
                    refine RD.nil ?_
                    refine thenQ_normal ?_
                    refine Runs.ret ?_
                    refine EndQ.tmp (.inr rfl) rfl rfl 0 (by exact Nat.le_refl _) (by exact Nat.zero_le _) trivial ⟨?_, rfl⟩
                    first
                      | rfl
                      | (refine bool_eq ?_; rw [hse.1] at hf0 ⊢; rw [un_ground hq8 ga gb ra rb hf0]; simp)
                · try simp only [decide_eq_true_eq, decide_eq_false_iff_not, beq_iff_eq, beq_eq_false_iff_ne, bne_iff_ne, bne_eq_false_iff_eq, Int.not_lt, Int.not_le, ne_eq, Bool.not_eq_true', Bool.not_eq_false', gt_iff_lt, ge_iff_le] at h16
                  rw [hba] at h16; exact absurd rfl h16
              · try simp only [decide_eq_true_eq, decide_eq_false_iff_not, beq_iff_eq, beq_eq_false_iff_ne, bne_iff_ne, bne_eq_false_iff_eq, Int.not_lt, Int.not_le, ne_eq, Bool.not_eq_true', Bool.not_eq_false', gt_iff_lt, ge_iff_le] at h15
                rw [hba] at h15; exact absurd rfl h15
            · try simp only [decide_eq_true_eq, decide_eq_false_iff_not, beq_iff_eq, beq_eq_false_iff_ne, bne_iff_ne, bne_eq_false_iff_eq, Int.not_lt, Int.not_le, ne_eq, Bool.not_eq_true', Bool.not_eq_false', gt_iff_lt, ge_iff_le] at h14
              rw [hba] at h14; simp at h14
end Go.Proofs.Ytegfpnpghfcopaa.AM
