import Derived.Test.YtegfpnpghfcopaaL0
namespace Go.Proofs.Ytegfpnpghfcopaa.AM
open Go
set_option linter.unusedVariables false
set_option linter.unusedSimpArgs false
theorem unifyTwice_fn (a b c : Term) (g1 : a.bulk ≤ 2 ^ 20) (_g1' : a.fits) (g2 : b.bulk ≤ 2 ^ 20) (_g2' : b.fits) (g3 : c.bulk ≤ 2 ^ 20) (_g3' : c.fits) : Fn Try.prog 8 [.d (enc a), .d (enc b), .d (enc c)] [] (.d (.bool true)) [] := by
  have hq8 : 8 < 16 := by decide
  refine Does.run Try.func8 rfl Try.ntmps8 rfl fun K hK => ?_
  refine Runs.rseq ?_
  refine RO.opn (v' := .ref 0 0) (O' := [_]) (opv_box_term rfl) rfl rfl ?_
  refine RO.opn (v' := .ref 1 0) (O' := [_, _]) (opv_box_term rfl) rfl rfl ?_
  refine RO.opn (v' := .ref 2 0) (O' := [_, _, _]) (opv_box_term rfl) rfl rfl ?_
  refine RO.opv (v' := .d (.bool false)) (opv_assign rfl) rfl ?_
  refine RO.nil ?_
  refine Runs.has [(3, .ref 0 0), (4, .ref 1 0), (5, .ref 2 0), (6, .d (.bool false))] ⟨rfl, rfl, rfl, rfl, trivial⟩ ?_
  refine Runs.rseq ?_
  refine RO.opv (v' := .d (.bool true)) (opv_callF (shown_fn) rfl rfl rfl trivial) rfl ?_
  refine RO.opv (v' := .d (.bool true)) (opv_assign rfl) rfl ?_
  refine RO.nil ?_
  refine Runs.has [(3, .ref 0 0), (4, .ref 1 0), (5, .ref 2 0), (6, .d (.bool false)), (7, .d (.bool true))] ⟨rfl, rfl, rfl, rfl, rfl, trivial⟩ ?_
  refine Runs.rseq ?_
  refine RO.opv (v' := .d (.list (encPs _))) (opv_callF (chainp_fn 8 (by decide)) rfl rfl rfl trivial) rfl ?_
  refine RO.opv (opv_callF (lnewC_fn 8 (by decide)) rfl rfl rfl ⟨trivial, trivial, trivial⟩) rfl ?_
  refine RO.opv (opv_move rfl) rfl ?_
  refine RO.opv (v' := .d (encL _)) (opv_extract rfl rfl) rfl ?_
  refine RO.opv (v' := .d (.int _ _)) (opv_extract rfl rfl) rfl ?_
  refine RO.opv (v' := .d (encL _)) (opv_assign rfl) rfl ?_
  refine RO.opv (v' := .d (.int _ _)) (opv_assign rfl) rfl ?_
  refine RO.nil ?_
  refine Runs.has [(3, .ref 0 0), (4, .ref 1 0), (5, .ref 2 0), (6, .d (.bool false)), (7, .d (.bool true)), (8, .d (encL _))] ⟨rfl, rfl, rfl, rfl, rfl, rfl, trivial⟩ ?_
  refine Runs.rseq ?_
  refine RO.opn (v' := .ref 5 0) (O' := [_, _, _, _, _, _]) (opv_callN 3 (svars_fn) rfl rfl rfl) rfl rfl ?_
  refine RO.opv (v' := .ref 5 0) (opv_assign rfl) rfl ?_
  refine RO.nil ?_
  refine Runs.has [(3, .ref 0 0), (4, .ref 1 0), (5, .ref 2 0), (6, .d (.bool false)), (7, .d (.bool true)), (8, .d (encL _)), (10, .ref 5 0)] ⟨rfl, rfl, rfl, rfl, rfl, rfl, rfl, trivial⟩ ?_
  refine Runs.seq ?_
  refine Runs.rseq ?_
  refine RO.opv (v' := .d (encL _)) (opv_move rfl) rfl ?_
  refine RO.opv (v' := .d (.bool false)) (opv_eqnil rfl rfl rfl) rfl ?_
  refine RO.opv (v' := .d (.bool false)) (opv_move rfl) rfl ?_
  refine RO.opgv (v' := .ref 5 0) rfl (opv_move rfl) rfl ?_
  refine RO.opgv (v' := .d (.bool false)) rfl (opv_eqnil_ref rfl rfl rfl) rfl ?_
  refine RO.opv (v' := .d (.bool false)) (opv_pick rfl rfl) rfl ?_
  refine RO.opv (v' := .d (.bool false)) (opv_move rfl) rfl ?_
  refine RO.opgv (v' := .d (enc _)) rfl (opv_load_term rfl rfl rfl) rfl ?_
  refine RO.opgv (v' := .d (.bool _)) rfl (opv_callF (may_fn a g1) rfl rfl rfl trivial) rfl ?_
  refine RO.opgv (v' := .d (.bool _)) rfl (opv_not rfl rfl) rfl ?_
  refine RO.opv (v' := .d (.bool _)) (opv_pick rfl rfl) rfl ?_
  refine RO.opc (opv_move rfl) (fun h1 => ?_) (fun h1 => ?_)
  · try simp only [decide_eq_true_eq, decide_eq_false_iff_not, beq_iff_eq, beq_eq_false_iff_ne, bne_iff_ne, bne_eq_false_iff_eq, Int.not_lt, Int.not_le, ne_eq, Bool.not_eq_true', Bool.not_eq_false', gt_iff_lt, ge_iff_le] at h1
    skip
    refine RO.off rfl ?_
    refine RO.off rfl ?_
    refine RO.off rfl ?_
    refine RO.opv (v' := .d (.bool true)) (opv_pick rfl rfl) rfl ?_
    refine RO.opv (v' := .d (.bool true)) (opv_move rfl) rfl ?_
    refine RO.off rfl ?_
    refine RO.off rfl ?_
    refine RO.off rfl ?_
    refine RO.opv (v' := .d (.bool true)) (opv_pick rfl rfl) rfl ?_
    refine RO.nil ?_
    refine Runs.condT rfl ?_
    refine Runs.has [(3, .ref 0 0), (4, .ref 1 0), (5, .ref 2 0), (6, .d (.bool false)), (7, .d (.bool true)), (8, .d (encL _)), (10, .ref 5 0)] ⟨rfl, rfl, rfl, rfl, rfl, rfl, rfl, trivial⟩ ?_
    refine Runs.rseq ?_
    refine RO.opv (v' := .d (.bool true)) (opv_move rfl) rfl ?_
    refine RO.opv (v' := .d (.bool true)) (opv_move rfl) rfl ?_
    refine RO.opgv (v' := .d (encL _)) rfl (opv_move rfl) rfl ?_
    refine RO.opgv (v' := .d (.bool true)) rfl (opv_nenil rfl rfl rfl) rfl ?_
    refine RO.opv (v' := .d (.bool true)) (opv_pick rfl rfl) rfl ?_
    refine RO.opv (v' := .d (.bool true)) (opv_move rfl) rfl ?_
    refine RO.opgv (v' := .ref 5 0) rfl (opv_move rfl) rfl ?_
    refine RO.opgv (v' := .d (.bool true)) rfl (opv_nenil_ref rfl rfl rfl) rfl ?_
    refine RO.opv (v' := .d (.bool true)) (opv_pick rfl rfl) rfl ?_
    refine RO.opv (v' := .d (.bool true)) (opv_assign rfl) rfl ?_
    refine RO.nil ?_
    refine Runs.ret ?_
    refine thenQ_ret ?_
    refine EndQ.tmp (.inr rfl) rfl rfl 0 (by exact Nat.le_refl _) (by exact Nat.zero_le _) trivial ⟨?_, rfl⟩
    first
      | rfl
      | (refine bool_eq ?_; rw [hsm.1, same_refl])
  · try simp only [decide_eq_true_eq, decide_eq_false_iff_not, beq_iff_eq, beq_eq_false_iff_ne, bne_iff_ne, bne_eq_false_iff_eq, Int.not_lt, Int.not_le, ne_eq, Bool.not_eq_true', Bool.not_eq_false', gt_iff_lt, ge_iff_le] at h1
    have ga := may_gd h1 g1
    refine RO.opgv (v' := .d (enc _)) rfl (opv_load_term rfl rfl rfl) rfl ?_
    refine RO.opgv (v' := .d (.bool _)) rfl (opv_callF (may_fn b g2) rfl rfl rfl trivial) rfl ?_
    refine RO.opgv (v' := .d (.bool _)) rfl (opv_not rfl rfl) rfl ?_
    refine RO.opv (v' := .d (.bool _)) (opv_pick rfl rfl) rfl ?_
    refine RO.opc (opv_move rfl) (fun h2 => ?_) (fun h2 => ?_)
    · try simp only [decide_eq_true_eq, decide_eq_false_iff_not, beq_iff_eq, beq_eq_false_iff_ne, bne_iff_ne, bne_eq_false_iff_eq, Int.not_lt, Int.not_le, ne_eq, Bool.not_eq_true', Bool.not_eq_false', gt_iff_lt, ge_iff_le] at h2
      skip
      refine RO.off rfl ?_
      refine RO.off rfl ?_
      refine RO.off rfl ?_
      refine RO.opv (v' := .d (.bool true)) (opv_pick rfl rfl) rfl ?_
      refine RO.nil ?_
      refine Runs.condT rfl ?_
      refine Runs.has [(3, .ref 0 0), (4, .ref 1 0), (5, .ref 2 0), (6, .d (.bool false)), (7, .d (.bool true)), (8, .d (encL _)), (10, .ref 5 0)] ⟨rfl, rfl, rfl, rfl, rfl, rfl, rfl, trivial⟩ ?_
      refine Runs.rseq ?_
      refine RO.opv (v' := .d (.bool true)) (opv_move rfl) rfl ?_
      refine RO.opv (v' := .d (.bool true)) (opv_move rfl) rfl ?_
      refine RO.opgv (v' := .d (encL _)) rfl (opv_move rfl) rfl ?_
      refine RO.opgv (v' := .d (.bool true)) rfl (opv_nenil rfl rfl rfl) rfl ?_
      refine RO.opv (v' := .d (.bool true)) (opv_pick rfl rfl) rfl ?_
      refine RO.opv (v' := .d (.bool true)) (opv_move rfl) rfl ?_
      refine RO.opgv (v' := .ref 5 0) rfl (opv_move rfl) rfl ?_
      refine RO.opgv (v' := .d (.bool true)) rfl (opv_nenil_ref rfl rfl rfl) rfl ?_
      refine RO.opv (v' := .d (.bool true)) (opv_pick rfl rfl) rfl ?_
      refine RO.opv (v' := .d (.bool true)) (opv_assign rfl) rfl ?_
      refine RO.nil ?_
      refine Runs.ret ?_
      refine thenQ_ret ?_
      refine EndQ.tmp (.inr rfl) rfl rfl 0 (by exact Nat.le_refl _) (by exact Nat.zero_le _) trivial ⟨?_, rfl⟩
      first
        | rfl
        | (refine bool_eq ?_; rw [hsm.1, same_refl])
    · try simp only [decide_eq_true_eq, decide_eq_false_iff_not, beq_iff_eq, beq_eq_false_iff_ne, bne_iff_ne, bne_eq_false_iff_eq, Int.not_lt, Int.not_le, ne_eq, Bool.not_eq_true', Bool.not_eq_false', gt_iff_lt, ge_iff_le] at h2
      have gb := may_gd h2 g2
      refine RO.opgv (v' := .d (enc _)) rfl (opv_load_term rfl rfl rfl) rfl ?_
      refine RO.opgv (v' := .d (.bool _)) rfl (opv_callF (may_fn c g3) rfl rfl rfl trivial) rfl ?_
      refine RO.opgv (v' := .d (.bool _)) rfl (opv_not rfl rfl) rfl ?_
      refine RO.opc (opv_pick rfl rfl) (fun h3 => ?_) (fun h3 => ?_)
      · try simp only [decide_eq_true_eq, decide_eq_false_iff_not, beq_iff_eq, beq_eq_false_iff_ne, bne_iff_ne, bne_eq_false_iff_eq, Int.not_lt, Int.not_le, ne_eq, Bool.not_eq_true', Bool.not_eq_false', gt_iff_lt, ge_iff_le] at h3
        skip
        refine RO.nil ?_
        refine Runs.condT rfl ?_
        refine Runs.has [(3, .ref 0 0), (4, .ref 1 0), (5, .ref 2 0), (6, .d (.bool false)), (7, .d (.bool true)), (8, .d (encL _)), (10, .ref 5 0)] ⟨rfl, rfl, rfl, rfl, rfl, rfl, rfl, trivial⟩ ?_
        refine Runs.rseq ?_
        refine RO.opv (v' := .d (.bool true)) (opv_move rfl) rfl ?_
        refine RO.opv (v' := .d (.bool true)) (opv_move rfl) rfl ?_
        refine RO.opgv (v' := .d (encL _)) rfl (opv_move rfl) rfl ?_
        refine RO.opgv (v' := .d (.bool true)) rfl (opv_nenil rfl rfl rfl) rfl ?_
        refine RO.opv (v' := .d (.bool true)) (opv_pick rfl rfl) rfl ?_
        refine RO.opv (v' := .d (.bool true)) (opv_move rfl) rfl ?_
        refine RO.opgv (v' := .ref 5 0) rfl (opv_move rfl) rfl ?_
        refine RO.opgv (v' := .d (.bool true)) rfl (opv_nenil_ref rfl rfl rfl) rfl ?_
        refine RO.opv (v' := .d (.bool true)) (opv_pick rfl rfl) rfl ?_
        refine RO.opv (v' := .d (.bool true)) (opv_assign rfl) rfl ?_
        refine RO.nil ?_
        refine Runs.ret ?_
        refine thenQ_ret ?_
        refine EndQ.tmp (.inr rfl) rfl rfl 0 (by exact Nat.le_refl _) (by exact Nat.zero_le _) trivial ⟨?_, rfl⟩
        first
          | rfl
          | (refine bool_eq ?_; rw [hsm.1, same_refl])
      · try simp only [decide_eq_true_eq, decide_eq_false_iff_not, beq_iff_eq, beq_eq_false_iff_ne, bne_iff_ne, bne_eq_false_iff_eq, Int.not_lt, Int.not_le, ne_eq, Bool.not_eq_true', Bool.not_eq_false', gt_iff_lt, ge_iff_le] at h3
        have gc := may_gd h3 g3
        obtain ⟨hgA, _⟩ := un_good hq8 (sv_sg 8) ga gb
        obtain ⟨hgB, _⟩ := un_good hq8 hgA gb gc
        obtain ⟨hgC, _⟩ := un_good hq8 hgB ga gc
        refine RO.nil ?_
        refine Runs.condF rfl ?_
        refine Runs.skip ?_
        refine thenQ_normal ?_
        refine Runs.has [(3, .ref 0 0), (4, .ref 1 0), (5, .ref 2 0), (6, .d (.bool false)), (7, .d (.bool true)), (8, .d (encL _)), (10, .ref 5 0)] ⟨rfl, rfl, rfl, rfl, rfl, rfl, rfl, trivial⟩ ?_
        refine Runs.rseq ?_
        refine RO.opv (v' := .ref 5 0) (opv_move rfl) rfl ?_
        refine RO.opv (v' := .d (encL _)) (opv_move rfl) rfl ?_
        refine RO.opv (v' := .d (enc _)) (opv_load_term rfl rfl rfl) rfl ?_
        refine RO.opv (v' := .d (enc _)) (opv_load_term rfl rfl rfl) rfl ?_
        refine RO.opn (O' := [_, _, _, _, _, _]) (opv_callS 3 3 (unify_fn 8 (by decide) sv (sv_sg 8) a b ga gb) rfl rfl rfl (Nat.le_of_ble_eq_true rfl) rfl (AV.bds_of_B _ rfl)) rfl rfl ?_
        refine RO.opv (opv_move rfl) rfl ?_
        refine RO.opv (v' := .d (.bool _)) (opv_extract rfl rfl) rfl ?_
        refine RO.opv (v' := .d (.int _ _)) (opv_extract rfl rfl) rfl ?_
        refine RO.opv (v' := .d (.int _ _)) (opv_extract rfl rfl) rfl ?_
        refine RO.opv (v' := .d (.bool _)) (opv_assign rfl) rfl ?_
        refine RO.opv (v' := .d (.int _ _)) (opv_assign rfl) rfl ?_
        refine RO.opv (v' := .d (.int _ _)) (opv_assign rfl) rfl ?_
        refine RO.nil ?_
        refine Runs.has [(3, .ref 0 0), (4, .ref 1 0), (5, .ref 2 0), (6, .d (.bool false)), (7, .d (.bool true)), (8, .d (encL _)), (10, .ref 5 0), (11, .d (.bool _))] ⟨rfl, rfl, rfl, rfl, rfl, rfl, rfl, rfl, trivial⟩ ?_
        refine Runs.rseq ?_
        refine RO.opv (v' := .ref 5 0) (opv_move rfl) rfl ?_
        refine RO.opv (v' := .d (encL _)) (opv_move rfl) rfl ?_
        refine RO.opv (v' := .d (enc _)) (opv_load_term rfl rfl rfl) rfl ?_
        refine RO.opv (v' := .d (enc _)) (opv_load_term rfl rfl rfl) rfl ?_
        refine RO.opn (O' := [_, _, _, _, _, _]) (opv_callS 3 3 (unify_fn 8 (by decide) (matchS (C 8) sv [a] [b]).1 hgA b c gb gc) rfl rfl rfl (Nat.le_of_ble_eq_true rfl) rfl (AV.bds_of_B _ rfl)) rfl rfl ?_
        refine RO.opv (opv_move rfl) rfl ?_
        refine RO.opv (v' := .d (.bool _)) (opv_extract rfl rfl) rfl ?_
        refine RO.opv (v' := .d (.int _ _)) (opv_extract rfl rfl) rfl ?_
        refine RO.opv (v' := .d (.int _ _)) (opv_extract rfl rfl) rfl ?_
        refine RO.opv (v' := .d (.bool _)) (opv_assign rfl) rfl ?_
        refine RO.opv (v' := .d (.int _ _)) (opv_assign rfl) rfl ?_
        refine RO.opv (v' := .d (.int _ _)) (opv_assign rfl) rfl ?_
        refine RO.nil ?_
        refine Runs.has [(3, .ref 0 0), (5, .ref 2 0), (6, .d (.bool false)), (7, .d (.bool true)), (8, .d (encL _)), (10, .ref 5 0), (11, .d (.bool _)), (14, .d (.bool _))] ⟨rfl, rfl, rfl, rfl, rfl, rfl, rfl, rfl, trivial⟩ ?_
        refine Runs.seq ?_
        refine Runs.rseq ?_
        refine RO.opv (v' := .d (.bool _)) (opv_move rfl) rfl ?_
        refine RO.opv (v' := .d (.bool _)) (opv_not rfl rfl) rfl ?_
        refine RO.opc (opv_move rfl) (fun h4 => ?_) (fun h4 => ?_)
        · try simp only [decide_eq_true_eq, decide_eq_false_iff_not, beq_iff_eq, beq_eq_false_iff_ne, bne_iff_ne, bne_eq_false_iff_eq, Int.not_lt, Int.not_le, ne_eq, Bool.not_eq_true', Bool.not_eq_false', gt_iff_lt, ge_iff_le] at h4
          skip
          refine RO.off rfl ?_
          refine RO.off rfl ?_
          refine RO.opv (v' := .d (.bool true)) (opv_pick rfl rfl) rfl ?_
          refine RO.nil ?_
          refine Runs.condT rfl ?_
          refine Runs.has [(3, .ref 0 0), (5, .ref 2 0), (6, .d (.bool false)), (7, .d (.bool true)), (8, .d (encL _)), (10, .ref 5 0)] ⟨rfl, rfl, rfl, rfl, rfl, rfl, trivial⟩ ?_
          refine Runs.rseq ?_
          refine RO.opv (v' := .d (.bool true)) (opv_move rfl) rfl ?_
          refine RO.opv (v' := .d (.bool true)) (opv_assign rfl) rfl ?_
          refine RO.nil ?_
          refine Runs.ret ?_
          refine thenQ_ret ?_
          refine EndQ.tmp (.inr rfl) rfl rfl 0 (by exact Nat.le_refl _) (by exact Nat.zero_le _) trivial ⟨?_, rfl⟩
          first
            | rfl
            | (refine bool_eq ?_; rw [hsm.1, same_refl])
        · try simp only [decide_eq_true_eq, decide_eq_false_iff_not, beq_iff_eq, beq_eq_false_iff_ne, bne_iff_ne, bne_eq_false_iff_eq, Int.not_lt, Int.not_le, ne_eq, Bool.not_eq_true', Bool.not_eq_false', gt_iff_lt, ge_iff_le] at h4
          have hi1 : (matchS (C 8) sv [a] [b]).2.1 = true := h4
          refine RO.opgv (v' := .d (.bool _)) rfl (opv_move rfl) rfl ?_
          refine RO.opgv (v' := .d (.bool _)) rfl (opv_not rfl rfl) rfl ?_
          refine RO.opc (opv_pick rfl rfl) (fun h5 => ?_) (fun h5 => ?_)
          · try simp only [decide_eq_true_eq, decide_eq_false_iff_not, beq_iff_eq, beq_eq_false_iff_ne, bne_iff_ne, bne_eq_false_iff_eq, Int.not_lt, Int.not_le, ne_eq, Bool.not_eq_true', Bool.not_eq_false', gt_iff_lt, ge_iff_le] at h5
            skip
            refine RO.nil ?_
            refine Runs.condT rfl ?_
            refine Runs.has [(3, .ref 0 0), (5, .ref 2 0), (6, .d (.bool false)), (7, .d (.bool true)), (8, .d (encL _)), (10, .ref 5 0)] ⟨rfl, rfl, rfl, rfl, rfl, rfl, trivial⟩ ?_
            refine Runs.rseq ?_
            refine RO.opv (v' := .d (.bool true)) (opv_move rfl) rfl ?_
            refine RO.opv (v' := .d (.bool true)) (opv_assign rfl) rfl ?_
            refine RO.nil ?_
            refine Runs.ret ?_
            refine thenQ_ret ?_
            refine EndQ.tmp (.inr rfl) rfl rfl 0 (by exact Nat.le_refl _) (by exact Nat.zero_le _) trivial ⟨?_, rfl⟩
            first
              | rfl
              | (refine bool_eq ?_; rw [hsm.1, same_refl])
          · try simp only [decide_eq_true_eq, decide_eq_false_iff_not, beq_iff_eq, beq_eq_false_iff_ne, bne_iff_ne, bne_eq_false_iff_eq, Int.not_lt, Int.not_le, ne_eq, Bool.not_eq_true', Bool.not_eq_false', gt_iff_lt, ge_iff_le] at h5
            have hi2 : (matchS (C 8) (matchS (C 8) sv [a] [b]).1 [b] [c]).2.1 = true := h5
            have htw := un_twice hq8 (sv_sg 8) ga gb gc hi1 hi2
            have hag := un_again hq8 hgB ga gc htw
            refine RO.nil ?_
            refine Runs.condF rfl ?_
            refine Runs.skip ?_
            refine thenQ_normal ?_
            refine Runs.has [(3, .ref 0 0), (5, .ref 2 0), (6, .d (.bool false)), (7, .d (.bool true)), (8, .d (encL _)), (10, .ref 5 0)] ⟨rfl, rfl, rfl, rfl, rfl, rfl, trivial⟩ ?_
            refine Runs.rseq ?_
            refine RO.opv (v' := .ref 5 0) (opv_move rfl) rfl ?_
            refine RO.opn (v' := .d (.int _ _)) (O' := [_, _, _, _, _, _]) (opv_callS 3 3 (mark_fn (matchS (C 8) (matchS (C 8) sv [a] [b]).1 [b] [c]).1) rfl rfl rfl (Nat.le_of_ble_eq_true rfl) rfl (AV.bds_of_B _ rfl)) rfl rfl ?_
            refine RO.opv (v' := .d (.int _ _)) (opv_assign rfl) rfl ?_
            refine RO.nil ?_
            refine Runs.has [(3, .ref 0 0), (5, .ref 2 0), (6, .d (.bool false)), (7, .d (.bool true)), (8, .d (encL _)), (10, .ref 5 0), (17, .d (.int _ _))] ⟨rfl, rfl, rfl, rfl, rfl, rfl, rfl, trivial⟩ ?_
            refine Runs.rseq ?_
            refine RO.opv (v' := .ref 5 0) (opv_move rfl) rfl ?_
            refine RO.opv (v' := .d (encL _)) (opv_move rfl) rfl ?_
            refine RO.opv (v' := .d (enc _)) (opv_load_term rfl rfl rfl) rfl ?_
            refine RO.opv (v' := .d (enc _)) (opv_load_term rfl rfl rfl) rfl ?_
            refine RO.opn (O' := [_, _, _, _, _, _]) (opv_callS 3 3 (unify_fn 8 (by decide) (matchS (C 8) (matchS (C 8) sv [a] [b]).1 [b] [c]).1 hgB a c ga gc) rfl rfl rfl (Nat.le_of_ble_eq_true rfl) rfl (AV.bds_of_B _ rfl)) rfl rfl ?_
            refine RO.opv (opv_move rfl) rfl ?_
            refine RO.opv (v' := .d (.bool _)) (opv_extract rfl rfl) rfl ?_
            refine RO.opv (v' := .d (.int _ _)) (opv_extract rfl rfl) rfl ?_
            refine RO.opv (v' := .d (.int _ _)) (opv_extract rfl rfl) rfl ?_
            refine RO.opv (v' := .d (.bool _)) (opv_assign rfl) rfl ?_
            refine RO.opv (v' := .d (.int _ _)) (opv_assign rfl) rfl ?_
            refine RO.opv (v' := .d (.int _ _)) (opv_assign rfl) rfl ?_
            refine RO.nil ?_
            refine Runs.has [(3, .ref 0 0), (5, .ref 2 0), (6, .d (.bool false)), (7, .d (.bool true)), (10, .ref 5 0), (17, .d (.int _ _)), (18, .d (.bool _)), (20, .d (.int _ _))] ⟨rfl, rfl, rfl, rfl, rfl, rfl, rfl, rfl, trivial⟩ ?_
            refine Runs.rseq ?_
            refine RO.opv (v' := .ref 5 0) (opv_move rfl) rfl ?_
            refine RO.opv (v' := .d (enc _)) (opv_load_term rfl rfl rfl) rfl ?_
            refine RO.opn (O' := [_, _, _, _, _, _]) (opv_callS 3 3 (full_fn (matchS (C 8) (matchS (C 8) (matchS (C 8) sv [a] [b]).1 [b] [c]).1 [a] [c]).1 a (hgC.ok.small' (Nat.le_of_ble_eq_true rfl)) hgC.ok.ends (Nat.le_trans g1 (Nat.le_of_ble_eq_true rfl))) rfl rfl rfl (Nat.le_of_ble_eq_true rfl) rfl (AV.bds_of_B _ rfl)) rfl rfl ?_
            refine RO.opv (opv_move rfl) rfl ?_
            refine RO.opv (v' := .d (enc _)) (opv_extract rfl rfl) rfl ?_
            refine RO.opv (v' := .d (.int _ _)) (opv_extract rfl rfl) rfl ?_
            refine RO.opn (v' := .ref 6 0) (O' := [_, _, _, _, _, _, _]) (opv_alloc) rfl rfl ?_
            refine RO.op0n (O' := [_, _, _, _, _, _, _]) (opv_store_term rfl rfl rfl (Nat.le_of_ble_eq_true rfl)) rfl ?_
            refine RO.opv (v' := .d (.int _ _)) (opv_assign rfl) rfl ?_
            refine RO.nil ?_
            refine Runs.has [(5, .ref 2 0), (6, .d (.bool false)), (7, .d (.bool true)), (10, .ref 5 0), (17, .d (.int _ _)), (18, .d (.bool _)), (20, .d (.int _ _)), (21, .ref 6 0), (22, .d (.int _ _))] ⟨rfl, rfl, rfl, rfl, rfl, rfl, rfl, rfl, rfl, trivial⟩ ?_
            refine Runs.rseq ?_
            refine RO.opv (v' := .ref 5 0) (opv_move rfl) rfl ?_
            refine RO.opv (v' := .d (enc _)) (opv_load_term rfl rfl rfl) rfl ?_
            refine RO.opn (O' := [_, _, _, _, _, _, _]) (opv_callS 3 3 (full_fn (matchS (C 8) (matchS (C 8) (matchS (C 8) sv [a] [b]).1 [b] [c]).1 [a] [c]).1 c (hgC.ok.small' (Nat.le_of_ble_eq_true rfl)) hgC.ok.ends (Nat.le_trans g3 (Nat.le_of_ble_eq_true rfl))) rfl rfl rfl (Nat.le_of_ble_eq_true rfl) rfl (AV.bds_of_B _ rfl)) rfl rfl ?_
            refine RO.opv (opv_move rfl) rfl ?_
            refine RO.opv (v' := .d (enc _)) (opv_extract rfl rfl) rfl ?_
            refine RO.opv (v' := .d (.int _ _)) (opv_extract rfl rfl) rfl ?_
            refine RO.opn (v' := .ref 7 0) (O' := [_, _, _, _, _, _, _, _]) (opv_alloc) rfl rfl ?_
            refine RO.op0n (O' := [_, _, _, _, _, _, _, _]) (opv_store_term rfl rfl rfl (Nat.le_of_ble_eq_true rfl)) rfl ?_
            refine RO.opv (v' := .d (.int _ _)) (opv_assign rfl) rfl ?_
            refine RO.nil ?_
            refine Runs.has [(6, .d (.bool false)), (7, .d (.bool true)), (10, .ref 5 0), (17, .d (.int _ _)), (18, .d (.bool _)), (20, .d (.int _ _)), (21, .ref 6 0), (22, .d (.int _ _)), (23, .ref 7 0), (24, .d (.int _ _))] ⟨rfl, rfl, rfl, rfl, rfl, rfl, rfl, rfl, rfl, rfl, trivial⟩ ?_
            refine Runs.seq ?_
            refine Runs.rseq ?_
            refine RO.opv (v' := .d (.int _ _)) (opv_move rfl) rfl ?_
            refine RO.opv (v' := .d (.bool _)) (opv_bin rfl rfl rfl) rfl ?_
            refine RO.opc (opv_move rfl) (fun h6 => ?_) (fun h6 => ?_)
            · try simp only [decide_eq_true_eq, decide_eq_false_iff_not, beq_iff_eq, beq_eq_false_iff_ne, bne_iff_ne, bne_eq_false_iff_eq, Int.not_lt, Int.not_le, ne_eq, Bool.not_eq_true', Bool.not_eq_false', gt_iff_lt, ge_iff_le] at h6
              have he0 := h6
              refine RO.off rfl ?_
              refine RO.off rfl ?_
              refine RO.opv (v' := .d (.bool true)) (opv_pick rfl rfl) rfl ?_
              refine RO.opv (v' := .d (.bool true)) (opv_move rfl) rfl ?_
              refine RO.off rfl ?_
              refine RO.off rfl ?_
              refine RO.opv (v' := .d (.bool true)) (opv_pick rfl rfl) rfl ?_
              refine RO.nil ?_
              refine Runs.condT rfl ?_
              refine Runs.has [(6, .d (.bool false)), (7, .d (.bool true)), (10, .ref 5 0), (17, .d (.int _ _)), (18, .d (.bool _)), (21, .ref 6 0), (23, .ref 7 0)] ⟨rfl, rfl, rfl, rfl, rfl, rfl, rfl, trivial⟩ ?_
              refine Runs.rseq ?_
              refine RO.opv (v' := .d (.bool true)) (opv_move rfl) rfl ?_
              refine RO.opv (v' := .d (.bool true)) (opv_assign rfl) rfl ?_
              refine RO.nil ?_
              refine Runs.ret ?_
              refine thenQ_ret ?_
              refine EndQ.tmp (.inr rfl) rfl rfl 0 (by exact Nat.le_refl _) (by exact Nat.zero_le _) trivial ⟨?_, rfl⟩
              first
                | rfl
                | (refine bool_eq ?_; rw [hsm.1, same_refl])
            · try simp only [decide_eq_true_eq, decide_eq_false_iff_not, beq_iff_eq, beq_eq_false_iff_ne, bne_iff_ne, bne_eq_false_iff_eq, Int.not_lt, Int.not_le, ne_eq, Bool.not_eq_true', Bool.not_eq_false', gt_iff_lt, ge_iff_le] at h6
              have he0 := h6
              refine RO.opgv (v' := .d (.int _ _)) rfl (opv_move rfl) rfl ?_
              refine RO.opgv (v' := .d (.bool _)) rfl (opv_bin rfl rfl rfl) rfl ?_
              refine RO.opv (v' := .d (.bool _)) (opv_pick rfl rfl) rfl ?_
              refine RO.opc (opv_move rfl) (fun h7 => ?_) (fun h7 => ?_)
              · try simp only [decide_eq_true_eq, decide_eq_false_iff_not, beq_iff_eq, beq_eq_false_iff_ne, bne_iff_ne, bne_eq_false_iff_eq, Int.not_lt, Int.not_le, ne_eq, Bool.not_eq_true', Bool.not_eq_false', gt_iff_lt, ge_iff_le] at h7
                have hf0 := h7
                refine RO.off rfl ?_
                refine RO.off rfl ?_
                refine RO.opv (v' := .d (.bool true)) (opv_pick rfl rfl) rfl ?_
                refine RO.nil ?_
                refine Runs.condT rfl ?_
                refine Runs.has [(6, .d (.bool false)), (7, .d (.bool true)), (10, .ref 5 0), (17, .d (.int _ _)), (18, .d (.bool _)), (21, .ref 6 0), (23, .ref 7 0)] ⟨rfl, rfl, rfl, rfl, rfl, rfl, rfl, trivial⟩ ?_
                refine Runs.rseq ?_
                refine RO.opv (v' := .d (.bool true)) (opv_move rfl) rfl ?_
                refine RO.opv (v' := .d (.bool true)) (opv_assign rfl) rfl ?_
                refine RO.nil ?_
                refine Runs.ret ?_
                refine thenQ_ret ?_
                refine EndQ.tmp (.inr rfl) rfl rfl 0 (by exact Nat.le_refl _) (by exact Nat.zero_le _) trivial ⟨?_, rfl⟩
                first
                  | rfl
                  | (refine bool_eq ?_; rw [hsm.1, same_refl])
              · try simp only [decide_eq_true_eq, decide_eq_false_iff_not, beq_iff_eq, beq_eq_false_iff_ne, bne_iff_ne, bne_eq_false_iff_eq, Int.not_lt, Int.not_le, ne_eq, Bool.not_eq_true', Bool.not_eq_false', gt_iff_lt, ge_iff_le] at h7
                have hf0 := h7
                refine RO.opgv (v' := .d (.int _ _)) rfl (opv_move rfl) rfl ?_
                refine RO.opgv (v' := .d (.bool _)) rfl (opv_bin rfl rfl rfl) rfl ?_
                refine RO.opc (opv_pick rfl rfl) (fun h8 => ?_) (fun h8 => ?_)
                · try simp only [decide_eq_true_eq, decide_eq_false_iff_not, beq_iff_eq, beq_eq_false_iff_ne, bne_iff_ne, bne_eq_false_iff_eq, Int.not_lt, Int.not_le, ne_eq, Bool.not_eq_true', Bool.not_eq_false', gt_iff_lt, ge_iff_le] at h8
                  skip
                  refine RO.nil ?_
                  refine Runs.condT rfl ?_
                  refine Runs.has [(6, .d (.bool false)), (7, .d (.bool true)), (10, .ref 5 0), (17, .d (.int _ _)), (18, .d (.bool _)), (21, .ref 6 0), (23, .ref 7 0)] ⟨rfl, rfl, rfl, rfl, rfl, rfl, rfl, trivial⟩ ?_
                  refine Runs.rseq ?_
                  refine RO.opv (v' := .d (.bool true)) (opv_move rfl) rfl ?_
                  refine RO.opv (v' := .d (.bool true)) (opv_assign rfl) rfl ?_
                  refine RO.nil ?_
                  refine Runs.ret ?_
                  refine thenQ_ret ?_
                  refine EndQ.tmp (.inr rfl) rfl rfl 0 (by exact Nat.le_refl _) (by exact Nat.zero_le _) trivial ⟨?_, rfl⟩
                  first
                    | rfl
                    | (refine bool_eq ?_; rw [hsm.1, same_refl])
                · try simp only [decide_eq_true_eq, decide_eq_false_iff_not, beq_iff_eq, beq_eq_false_iff_ne, bne_iff_ne, bne_eq_false_iff_eq, Int.not_lt, Int.not_le, ne_eq, Bool.not_eq_true', Bool.not_eq_false', gt_iff_lt, ge_iff_le] at h8
                  have hgg0 := h8
                  have hown : (matchS (C 8) (matchS (C 8) (matchS (C 8) sv [a] [b]).1 [b] [c]).1 [a] [c]).2.1 = true := by
                    rcases hag.2 with e | e
                    · exact e
                    · rw [he0] at e; cases e
                  have hsm := un_full hq8 hgB ga gc hown hf0 hgg0
                  refine RO.nil ?_
                  refine Runs.condF rfl ?_
                  refine Runs.skip ?_
                  refine thenQ_normal ?_
                  refine Runs.has [(6, .d (.bool false)), (7, .d (.bool true)), (10, .ref 5 0), (17, .d (.int _ _)), (18, .d (.bool _)), (21, .ref 6 0), (23, .ref 7 0)] ⟨rfl, rfl, rfl, rfl, rfl, rfl, rfl, trivial⟩ ?_
                  refine Runs.seq ?_
                  refine Runs.drawn (by kernel_rfl) [] [false, false, false, false, false, false, false, false, false, false, false, false, false, false, false, false, false, false] [false, false, false, false, false, false, false, false, false, false, false, false, false, false, false, false, false, false] (by decide +kernel) ?_
                  refine RD.opv (v' := .d (.bool true)) (opv_move rfl) rfl ?_
                  refine RD.opv (v' := .d (.bool true)) (opv_move rfl) rfl ?_
                  refine RD.opgv (v' := .d (.bool _)) rfl (opv_move rfl) rfl ?_
                  refine RD.opv (v' := .d (.bool _)) (opv_pick rfl rfl) rfl ?_
                  refine RD.opc (opv_move rfl) (fun h9 => ?_) (fun h9 => ?_)
                  · try simp only [decide_eq_true_eq, decide_eq_false_iff_not, beq_iff_eq, beq_eq_false_iff_ne, bne_iff_ne, bne_eq_false_iff_eq, Int.not_lt, Int.not_le, ne_eq, Bool.not_eq_true', Bool.not_eq_false', gt_iff_lt, ge_iff_le] at h9
                    refine RD.opgv (v' := .ref 5 0) rfl (opv_move rfl) rfl ?_
                    refine RD.opgq (v' := .d (.int _ _)) rfl (opv_callS 3 3 (mark_fn (matchS (C 8) (matchS (C 8) (matchS (C 8) sv [a] [b]).1 [b] [c]).1 [a] [c]).1) rfl rfl rfl (Nat.le_of_ble_eq_true rfl) rfl (AV.bds_of_B _ rfl)) rfl rfl ?_
                    refine RD.opgv (v' := .d (.int _ _)) rfl (opv_move rfl) rfl ?_
                    refine RD.opgv (v' := .d (.bool _)) rfl (opv_bin rfl rfl rfl) rfl ?_
                    refine RD.opv (v' := .d (.bool _)) (opv_pick rfl rfl) rfl ?_
                    refine RD.opc (opv_move rfl) (fun h10 => ?_) (fun h10 => ?_)
                    · try simp only [decide_eq_true_eq, decide_eq_false_iff_not, beq_iff_eq, beq_eq_false_iff_ne, bne_iff_ne, bne_eq_false_iff_eq, Int.not_lt, Int.not_le, ne_eq, Bool.not_eq_true', Bool.not_eq_false', gt_iff_lt, ge_iff_le] at h10
                      refine RD.opgv (v' := .d (enc _)) rfl (opv_load_term rfl rfl rfl) rfl ?_
                      refine RD.opgv (v' := .d (enc _)) rfl (opv_callF (erase_fn (((matchS (C 8) (matchS (C 8) (matchS (C 8) sv [a] [b]).1 [b] [c]).1 [a] [c]).1).full a).1 (full_bulk hgC.ok.small g1)) rfl rfl rfl trivial) rfl ?_
                      refine RD.opgv (v' := .d (enc _)) rfl (opv_load_term rfl rfl rfl) rfl ?_
                      refine RD.opgv (v' := .d (enc _)) rfl (opv_callF (erase_fn (((matchS (C 8) (matchS (C 8) (matchS (C 8) sv [a] [b]).1 [b] [c]).1 [a] [c]).1).full c).1 (full_bulk hgC.ok.small g3)) rfl rfl rfl trivial) rfl ?_
                      refine RD.opgv (v' := .d (.bool _)) rfl (opv_callF (same_fn (((matchS (C 8) (matchS (C 8) (matchS (C 8) sv [a] [b]).1 [b] [c]).1 [a] [c]).1).full a).1.erase (((matchS (C 8) (matchS (C 8) (matchS (C 8) sv [a] [b]).1 [b] [c]).1 [a] [c]).1).full c).1.erase (Nat.le_trans (erase_bulk _) (full_bulk hgC.ok.small g1)) (Nat.le_trans (erase_bulk _) (full_bulk hgC.ok.small g3))) rfl rfl rfl trivial) rfl ?_
                      refine RD.opv (v' := .d (.bool _)) (opv_pick rfl rfl) rfl ?_
                      refine RD.opv (v' := .d (.bool _)) (opv_assign rfl) rfl ?_
                      refine RD.nil ?_
                      refine thenQ_normal ?_
                      refine Runs.ret ?_
                      refine EndQ.tmp (.inr rfl) rfl rfl 0 (by exact Nat.le_refl _) (by exact Nat.zero_le _) trivial ⟨?_, rfl⟩
                      first
                        | rfl
                        | (refine bool_eq ?_; rw [hsm.1, same_refl])
                    · try simp only [decide_eq_true_eq, decide_eq_false_iff_not, beq_iff_eq, beq_eq_false_iff_ne, bne_iff_ne, bne_eq_false_iff_eq, Int.not_lt, Int.not_le, ne_eq, Bool.not_eq_true', Bool.not_eq_false', gt_iff_lt, ge_iff_le] at h10
                      rw [hag.1] at h10; exact absurd rfl h10
                  · try simp only [decide_eq_true_eq, decide_eq_false_iff_not, beq_iff_eq, beq_eq_false_iff_ne, bne_iff_ne, bne_eq_false_iff_eq, Int.not_lt, Int.not_le, ne_eq, Bool.not_eq_true', Bool.not_eq_false', gt_iff_lt, ge_iff_le] at h9
                    rw [hown] at h9; cases h9
end Go.Proofs.Ytegfpnpghfcopaa.AM
