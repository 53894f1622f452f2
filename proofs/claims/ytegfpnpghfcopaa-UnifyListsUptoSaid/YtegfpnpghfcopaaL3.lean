import Derived.Test.YtegfpnpghfcopaaL0
namespace Go.Proofs.Ytegfpnpghfcopaa.AM
open Go
set_option linter.unusedVariables false
set_option linter.unusedSimpArgs false
theorem unifyLists_fn (a b c d : Term) (g1 : a.bulk + b.bulk + c.bulk + d.bulk ≤ 2 ^ 20) (_g1' : a.fits) (g2 : b.bulk ≤ 2 ^ 20) (_g2' : b.fits) (g3 : c.bulk ≤ 2 ^ 20) (_g3' : c.fits) (g4 : d.bulk ≤ 2 ^ 20) (_g4' : d.fits) : Fn Try.prog 5 [.d (enc a), .d (enc b), .d (enc c), .d (enc d)] [] (.d (.bool true)) [] := by
  have hq8 : 8 < 16 := by decide
  have zu := a.bulk_kids
  have zv := b.bulk_kids
  have zw := c.bulk_kids
  have zx := d.bulk_kids
  refine Does.run Try.func5 rfl Try.ntmps5 rfl fun K hK => ?_
  refine Runs.rseq ?_
  refine RO.opn (v' := .ref 0 0) (O' := [_]) (opv_box_term rfl) rfl rfl ?_
  refine RO.opn (v' := .ref 1 0) (O' := [_, _]) (opv_box_term rfl) rfl rfl ?_
  refine RO.opn (v' := .ref 2 0) (O' := [_, _, _]) (opv_box_term rfl) rfl rfl ?_
  refine RO.opn (v' := .ref 3 0) (O' := [_, _, _, _]) (opv_box_term rfl) rfl rfl ?_
  refine RO.opv (v' := .d (.bool false)) (opv_assign rfl) rfl ?_
  refine RO.nil ?_
  refine Runs.has [(4, .ref 0 0), (5, .ref 1 0), (6, .ref 2 0), (7, .ref 3 0), (8, .d (.bool false))] ⟨rfl, rfl, rfl, rfl, rfl, trivial⟩ ?_
  refine Runs.rseq ?_
  refine RO.opv (v' := .d (.bool true)) (opv_callF (shown_fn) rfl rfl rfl trivial) rfl ?_
  refine RO.opv (v' := .d (.bool true)) (opv_assign rfl) rfl ?_
  refine RO.nil ?_
  refine Runs.has [(4, .ref 0 0), (5, .ref 1 0), (6, .ref 2 0), (7, .ref 3 0), (8, .d (.bool false)), (9, .d (.bool true))] ⟨rfl, rfl, rfl, rfl, rfl, rfl, trivial⟩ ?_
  refine Runs.rseq ?_
  refine RO.opv (v' := .d (.list (encPs _))) (opv_callF (chainp_fn 8 (by decide)) rfl rfl rfl trivial) rfl ?_
  refine RO.opv (opv_callF (lnewC_fn 8 (by decide)) rfl rfl rfl ⟨trivial, trivial, trivial⟩) rfl ?_
  refine RO.opv (opv_move rfl) rfl ?_
  refine RO.opv (v' := .d (encL _)) (opv_extract rfl rfl) rfl ?_
  refine RO.opv (v' := .d (.int _ _)) (opv_extract rfl rfl) rfl ?_
  refine RO.opv (v' := .d (encL _)) (opv_assign rfl) rfl ?_
  refine RO.opv (v' := .d (.int _ _)) (opv_assign rfl) rfl ?_
  refine RO.nil ?_
  refine Runs.has [(4, .ref 0 0), (5, .ref 1 0), (6, .ref 2 0), (7, .ref 3 0), (8, .d (.bool false)), (9, .d (.bool true)), (10, .d (encL _))] ⟨rfl, rfl, rfl, rfl, rfl, rfl, rfl, trivial⟩ ?_
  refine Runs.rseq ?_
  refine RO.opn (v' := .ref 6 0) (O' := [_, _, _, _, _, _, _]) (opv_callN 4 (svars_fn) rfl rfl rfl) rfl rfl ?_
  refine RO.opv (v' := .ref 6 0) (opv_assign rfl) rfl ?_
  refine RO.nil ?_
  refine Runs.has [(4, .ref 0 0), (5, .ref 1 0), (6, .ref 2 0), (7, .ref 3 0), (8, .d (.bool false)), (9, .d (.bool true)), (10, .d (encL _)), (12, .ref 6 0)] ⟨rfl, rfl, rfl, rfl, rfl, rfl, rfl, rfl, trivial⟩ ?_
  refine Runs.rseq ?_
  refine RO.opn (v' := .ref 9 0) (O' := [_, _, _, _, _, _, _, _, _, _]) (opv_callN 7 (svars_fn) rfl rfl rfl) rfl rfl ?_
  refine RO.opv (v' := .ref 9 0) (opv_assign rfl) rfl ?_
  refine RO.nil ?_
  refine Runs.has [(4, .ref 0 0), (5, .ref 1 0), (6, .ref 2 0), (7, .ref 3 0), (8, .d (.bool false)), (9, .d (.bool true)), (10, .d (encL _)), (12, .ref 6 0), (13, .ref 9 0)] ⟨rfl, rfl, rfl, rfl, rfl, rfl, rfl, rfl, rfl, trivial⟩ ?_
  refine Runs.seq ?_
  refine Runs.rseq ?_
  refine RO.opv (v' := .d (encL _)) (opv_move rfl) rfl ?_
  refine RO.opv (v' := .d (.bool false)) (opv_eqnil rfl rfl rfl) rfl ?_
  refine RO.opv (v' := .d (.bool false)) (opv_move rfl) rfl ?_
  refine RO.opgv (v' := .ref 6 0) rfl (opv_move rfl) rfl ?_
  refine RO.opgv (v' := .d (.bool false)) rfl (opv_eqnil_ref rfl rfl rfl) rfl ?_
  refine RO.opv (v' := .d (.bool false)) (opv_pick rfl rfl) rfl ?_
  refine RO.opv (v' := .d (.bool false)) (opv_move rfl) rfl ?_
  refine RO.opgv (v' := .ref 9 0) rfl (opv_move rfl) rfl ?_
  refine RO.opgv (v' := .d (.bool false)) rfl (opv_eqnil_ref rfl rfl rfl) rfl ?_
  refine RO.opv (v' := .d (.bool false)) (opv_pick rfl rfl) rfl ?_
  refine RO.opv (v' := .d (.bool false)) (opv_move rfl) rfl ?_
  refine RO.opgv (v' := .d (enc _)) rfl (opv_load_term rfl rfl rfl) rfl ?_
  refine RO.opgv (v' := .d (.bool _)) rfl (opv_callF (may_fn a (by omega)) rfl rfl rfl trivial) rfl ?_
  refine RO.opgv (v' := .d (.bool _)) rfl (opv_not rfl rfl) rfl ?_
  refine RO.opv (v' := .d (.bool _)) (opv_pick rfl rfl) rfl ?_
  refine RO.opc (opv_move rfl) (fun h1 => ?_) (fun h1 => ?_)
  · try simp only [decide_eq_true_eq, decide_eq_false_iff_not, beq_iff_eq, beq_eq_false_iff_ne, bne_iff_ne, bne_eq_false_iff_eq, Int.not_lt, Int.not_le, ne_eq, Bool.not_eq_true', Bool.not_eq_false', gt_iff_lt, ge_iff_le] at h1
    skip
    refine RO.off rfl ?_
    refine RO.off rfl ?_
    refine RO.off rfl ?_
    refine RO.opv (v' := .d (.bool true)) (opv_pick rfl rfl) rfl ?_
    refine RO.opv (v' := .d (.bool true)) (opv_move rfl) rfl ?_
    refine RO.off rfl ?_
    refine RO.off rfl ?_
    refine RO.off rfl ?_
    refine RO.opv (v' := .d (.bool true)) (opv_pick rfl rfl) rfl ?_
    refine RO.opv (v' := .d (.bool true)) (opv_move rfl) rfl ?_
    refine RO.off rfl ?_
    refine RO.off rfl ?_
    refine RO.off rfl ?_
    refine RO.opv (v' := .d (.bool true)) (opv_pick rfl rfl) rfl ?_
    refine RO.nil ?_
    refine Runs.condT rfl ?_
    refine Runs.has [(4, .ref 0 0), (5, .ref 1 0), (6, .ref 2 0), (7, .ref 3 0), (8, .d (.bool false)), (9, .d (.bool true)), (10, .d (encL _)), (12, .ref 6 0), (13, .ref 9 0)] ⟨rfl, rfl, rfl, rfl, rfl, rfl, rfl, rfl, rfl, trivial⟩ ?_
    refine Runs.rseq ?_
    refine RO.opv (v' := .d (.bool true)) (opv_move rfl) rfl ?_
    refine RO.opv (v' := .d (.bool true)) (opv_move rfl) rfl ?_
    refine RO.opgv (v' := .d (encL _)) rfl (opv_move rfl) rfl ?_
    refine RO.opgv (v' := .d (.bool true)) rfl (opv_nenil rfl rfl rfl) rfl ?_
    refine RO.opv (v' := .d (.bool true)) (opv_pick rfl rfl) rfl ?_
    refine RO.opv (v' := .d (.bool true)) (opv_move rfl) rfl ?_
    refine RO.opgv (v' := .ref 6 0) rfl (opv_move rfl) rfl ?_
    refine RO.opgv (v' := .d (.bool true)) rfl (opv_nenil_ref rfl rfl rfl) rfl ?_
    refine RO.opv (v' := .d (.bool true)) (opv_pick rfl rfl) rfl ?_
    refine RO.opv (v' := .d (.bool true)) (opv_move rfl) rfl ?_
    refine RO.opgv (v' := .ref 9 0) rfl (opv_move rfl) rfl ?_
    refine RO.opgv (v' := .d (.bool true)) rfl (opv_nenil_ref rfl rfl rfl) rfl ?_
    refine RO.opv (v' := .d (.bool true)) (opv_pick rfl rfl) rfl ?_
    refine RO.opv (v' := .d (.bool true)) (opv_assign rfl) rfl ?_
    refine RO.nil ?_
    refine Runs.ret ?_
    refine thenQ_ret ?_
    refine EndQ.tmp (.inr rfl) rfl rfl 0 (by exact Nat.le_refl _) (by exact Nat.zero_le _) trivial ⟨?_, rfl⟩
    first
      | rfl
      | (refine bool_eq ?_; rw [hnm]; simp)
  · try simp only [decide_eq_true_eq, decide_eq_false_iff_not, beq_iff_eq, beq_eq_false_iff_ne, bne_iff_ne, bne_eq_false_iff_eq, Int.not_lt, Int.not_le, ne_eq, Bool.not_eq_true', Bool.not_eq_false', gt_iff_lt, ge_iff_le] at h1
    have ga := may_gd h1 (by omega)
    refine RO.opgv (v' := .d (enc _)) rfl (opv_load_term rfl rfl rfl) rfl ?_
    refine RO.opgv (v' := .d (.bool _)) rfl (opv_callF (may_fn b g2) rfl rfl rfl trivial) rfl ?_
    refine RO.opgv (v' := .d (.bool _)) rfl (opv_not rfl rfl) rfl ?_
    refine RO.opv (v' := .d (.bool _)) (opv_pick rfl rfl) rfl ?_
    refine RO.opc (opv_move rfl) (fun h2 => ?_) (fun h2 => ?_)
    · try simp only [decide_eq_true_eq, decide_eq_false_iff_not, beq_iff_eq, beq_eq_false_iff_ne, bne_iff_ne, bne_eq_false_iff_eq, Int.not_lt, Int.not_le, ne_eq, Bool.not_eq_true', Bool.not_eq_false', gt_iff_lt, ge_iff_le] at h2
      skip
      refine RO.off rfl ?_
      refine RO.off rfl ?_
      refine RO.off rfl ?_
      refine RO.opv (v' := .d (.bool true)) (opv_pick rfl rfl) rfl ?_
      refine RO.opv (v' := .d (.bool true)) (opv_move rfl) rfl ?_
      refine RO.off rfl ?_
      refine RO.off rfl ?_
      refine RO.off rfl ?_
      refine RO.opv (v' := .d (.bool true)) (opv_pick rfl rfl) rfl ?_
      refine RO.nil ?_
      refine Runs.condT rfl ?_
      refine Runs.has [(4, .ref 0 0), (5, .ref 1 0), (6, .ref 2 0), (7, .ref 3 0), (8, .d (.bool false)), (9, .d (.bool true)), (10, .d (encL _)), (12, .ref 6 0), (13, .ref 9 0)] ⟨rfl, rfl, rfl, rfl, rfl, rfl, rfl, rfl, rfl, trivial⟩ ?_
      refine Runs.rseq ?_
      refine RO.opv (v' := .d (.bool true)) (opv_move rfl) rfl ?_
      refine RO.opv (v' := .d (.bool true)) (opv_move rfl) rfl ?_
      refine RO.opgv (v' := .d (encL _)) rfl (opv_move rfl) rfl ?_
      refine RO.opgv (v' := .d (.bool true)) rfl (opv_nenil rfl rfl rfl) rfl ?_
      refine RO.opv (v' := .d (.bool true)) (opv_pick rfl rfl) rfl ?_
      refine RO.opv (v' := .d (.bool true)) (opv_move rfl) rfl ?_
      refine RO.opgv (v' := .ref 6 0) rfl (opv_move rfl) rfl ?_
      refine RO.opgv (v' := .d (.bool true)) rfl (opv_nenil_ref rfl rfl rfl) rfl ?_
      refine RO.opv (v' := .d (.bool true)) (opv_pick rfl rfl) rfl ?_
      refine RO.opv (v' := .d (.bool true)) (opv_move rfl) rfl ?_
      refine RO.opgv (v' := .ref 9 0) rfl (opv_move rfl) rfl ?_
      refine RO.opgv (v' := .d (.bool true)) rfl (opv_nenil_ref rfl rfl rfl) rfl ?_
      refine RO.opv (v' := .d (.bool true)) (opv_pick rfl rfl) rfl ?_
      refine RO.opv (v' := .d (.bool true)) (opv_assign rfl) rfl ?_
      refine RO.nil ?_
      refine Runs.ret ?_
      refine thenQ_ret ?_
      refine EndQ.tmp (.inr rfl) rfl rfl 0 (by exact Nat.le_refl _) (by exact Nat.zero_le _) trivial ⟨?_, rfl⟩
      first
        | rfl
        | (refine bool_eq ?_; rw [hnm]; simp)
    · try simp only [decide_eq_true_eq, decide_eq_false_iff_not, beq_iff_eq, beq_eq_false_iff_ne, bne_iff_ne, bne_eq_false_iff_eq, Int.not_lt, Int.not_le, ne_eq, Bool.not_eq_true', Bool.not_eq_false', gt_iff_lt, ge_iff_le] at h2
      have gb := may_gd h2 g2
      refine RO.opgv (v' := .d (enc _)) rfl (opv_load_term rfl rfl rfl) rfl ?_
      refine RO.opgv (v' := .d (.bool _)) rfl (opv_callF (may_fn c g3) rfl rfl rfl trivial) rfl ?_
      refine RO.opgv (v' := .d (.bool _)) rfl (opv_not rfl rfl) rfl ?_
      refine RO.opv (v' := .d (.bool _)) (opv_pick rfl rfl) rfl ?_
      refine RO.opc (opv_move rfl) (fun h3 => ?_) (fun h3 => ?_)
      · try simp only [decide_eq_true_eq, decide_eq_false_iff_not, beq_iff_eq, beq_eq_false_iff_ne, bne_iff_ne, bne_eq_false_iff_eq, Int.not_lt, Int.not_le, ne_eq, Bool.not_eq_true', Bool.not_eq_false', gt_iff_lt, ge_iff_le] at h3
        skip
        refine RO.off rfl ?_
        refine RO.off rfl ?_
        refine RO.off rfl ?_
        refine RO.opv (v' := .d (.bool true)) (opv_pick rfl rfl) rfl ?_
        refine RO.nil ?_
        refine Runs.condT rfl ?_
        refine Runs.has [(4, .ref 0 0), (5, .ref 1 0), (6, .ref 2 0), (7, .ref 3 0), (8, .d (.bool false)), (9, .d (.bool true)), (10, .d (encL _)), (12, .ref 6 0), (13, .ref 9 0)] ⟨rfl, rfl, rfl, rfl, rfl, rfl, rfl, rfl, rfl, trivial⟩ ?_
        refine Runs.rseq ?_
        refine RO.opv (v' := .d (.bool true)) (opv_move rfl) rfl ?_
        refine RO.opv (v' := .d (.bool true)) (opv_move rfl) rfl ?_
        refine RO.opgv (v' := .d (encL _)) rfl (opv_move rfl) rfl ?_
        refine RO.opgv (v' := .d (.bool true)) rfl (opv_nenil rfl rfl rfl) rfl ?_
        refine RO.opv (v' := .d (.bool true)) (opv_pick rfl rfl) rfl ?_
        refine RO.opv (v' := .d (.bool true)) (opv_move rfl) rfl ?_
        refine RO.opgv (v' := .ref 6 0) rfl (opv_move rfl) rfl ?_
        refine RO.opgv (v' := .d (.bool true)) rfl (opv_nenil_ref rfl rfl rfl) rfl ?_
        refine RO.opv (v' := .d (.bool true)) (opv_pick rfl rfl) rfl ?_
        refine RO.opv (v' := .d (.bool true)) (opv_move rfl) rfl ?_
        refine RO.opgv (v' := .ref 9 0) rfl (opv_move rfl) rfl ?_
        refine RO.opgv (v' := .d (.bool true)) rfl (opv_nenil_ref rfl rfl rfl) rfl ?_
        refine RO.opv (v' := .d (.bool true)) (opv_pick rfl rfl) rfl ?_
        refine RO.opv (v' := .d (.bool true)) (opv_assign rfl) rfl ?_
        refine RO.nil ?_
        refine Runs.ret ?_
        refine thenQ_ret ?_
        refine EndQ.tmp (.inr rfl) rfl rfl 0 (by exact Nat.le_refl _) (by exact Nat.zero_le _) trivial ⟨?_, rfl⟩
        first
          | rfl
          | (refine bool_eq ?_; rw [hnm]; simp)
      · try simp only [decide_eq_true_eq, decide_eq_false_iff_not, beq_iff_eq, beq_eq_false_iff_ne, bne_iff_ne, bne_eq_false_iff_eq, Int.not_lt, Int.not_le, ne_eq, Bool.not_eq_true', Bool.not_eq_false', gt_iff_lt, ge_iff_le] at h3
        have gc := may_gd h3 g3
        refine RO.opgv (v' := .d (enc _)) rfl (opv_load_term rfl rfl rfl) rfl ?_
        refine RO.opgv (v' := .d (.bool _)) rfl (opv_callF (may_fn d g4) rfl rfl rfl trivial) rfl ?_
        refine RO.opgv (v' := .d (.bool _)) rfl (opv_not rfl rfl) rfl ?_
        refine RO.opc (opv_pick rfl rfl) (fun h4 => ?_) (fun h4 => ?_)
        · try simp only [decide_eq_true_eq, decide_eq_false_iff_not, beq_iff_eq, beq_eq_false_iff_ne, bne_iff_ne, bne_eq_false_iff_eq, Int.not_lt, Int.not_le, ne_eq, Bool.not_eq_true', Bool.not_eq_false', gt_iff_lt, ge_iff_le] at h4
          skip
          refine RO.nil ?_
          refine Runs.condT rfl ?_
          refine Runs.has [(4, .ref 0 0), (5, .ref 1 0), (6, .ref 2 0), (7, .ref 3 0), (8, .d (.bool false)), (9, .d (.bool true)), (10, .d (encL _)), (12, .ref 6 0), (13, .ref 9 0)] ⟨rfl, rfl, rfl, rfl, rfl, rfl, rfl, rfl, rfl, trivial⟩ ?_
          refine Runs.rseq ?_
          refine RO.opv (v' := .d (.bool true)) (opv_move rfl) rfl ?_
          refine RO.opv (v' := .d (.bool true)) (opv_move rfl) rfl ?_
          refine RO.opgv (v' := .d (encL _)) rfl (opv_move rfl) rfl ?_
          refine RO.opgv (v' := .d (.bool true)) rfl (opv_nenil rfl rfl rfl) rfl ?_
          refine RO.opv (v' := .d (.bool true)) (opv_pick rfl rfl) rfl ?_
          refine RO.opv (v' := .d (.bool true)) (opv_move rfl) rfl ?_
          refine RO.opgv (v' := .ref 6 0) rfl (opv_move rfl) rfl ?_
          refine RO.opgv (v' := .d (.bool true)) rfl (opv_nenil_ref rfl rfl rfl) rfl ?_
          refine RO.opv (v' := .d (.bool true)) (opv_pick rfl rfl) rfl ?_
          refine RO.opv (v' := .d (.bool true)) (opv_move rfl) rfl ?_
          refine RO.opgv (v' := .ref 9 0) rfl (opv_move rfl) rfl ?_
          refine RO.opgv (v' := .d (.bool true)) rfl (opv_nenil_ref rfl rfl rfl) rfl ?_
          refine RO.opv (v' := .d (.bool true)) (opv_pick rfl rfl) rfl ?_
          refine RO.opv (v' := .d (.bool true)) (opv_assign rfl) rfl ?_
          refine RO.nil ?_
          refine Runs.ret ?_
          refine thenQ_ret ?_
          refine EndQ.tmp (.inr rfl) rfl rfl 0 (by exact Nat.le_refl _) (by exact Nat.zero_le _) trivial ⟨?_, rfl⟩
          first
            | rfl
            | (refine bool_eq ?_; rw [hnm]; simp)
        · try simp only [decide_eq_true_eq, decide_eq_false_iff_not, beq_iff_eq, beq_eq_false_iff_ne, bne_iff_ne, bne_eq_false_iff_eq, Int.not_lt, Int.not_le, ne_eq, Bool.not_eq_true', Bool.not_eq_false', gt_iff_lt, ge_iff_le] at h4
          have gd := may_gd h4 g4
          have hps : Ps 8 ([a, b].zip [c, d]) := fun p hp => by
            simp at hp
            rcases hp with rfl | rfl
            · exact ⟨ga, gc⟩
            · exact ⟨gb, gd⟩
          refine RO.nil ?_
          refine Runs.condF rfl ?_
          refine Runs.skip ?_
          refine thenQ_normal ?_
          refine Runs.has [(4, .ref 0 0), (5, .ref 1 0), (6, .ref 2 0), (7, .ref 3 0), (8, .d (.bool false)), (9, .d (.bool true)), (10, .d (encL _)), (12, .ref 6 0), (13, .ref 9 0)] ⟨rfl, rfl, rfl, rfl, rfl, rfl, rfl, rfl, rfl, trivial⟩ ?_
          refine Runs.rseq ?_
          refine RO.opv (v' := .ref 6 0) (opv_move rfl) rfl ?_
          refine RO.opv (v' := .d (encL _)) (opv_move rfl) rfl ?_
          refine RO.opv (v' := .d (enc _)) (opv_load_term rfl rfl rfl) rfl ?_
          refine RO.opv (v' := .d (enc _)) (opv_load_term rfl rfl rfl) rfl ?_
          refine RO.opv (v' := .d (.list (encs _))) (opv_bs_term2 rfl rfl ) rfl ?_
          refine RO.opv (v' := .d (enc _)) (opv_load_term rfl rfl rfl) rfl ?_
          refine RO.opv (v' := .d (enc _)) (opv_load_term rfl rfl rfl) rfl ?_
          refine RO.opv (v' := .d (.list (encs _))) (opv_bs_term2 rfl rfl ) rfl ?_
          refine RO.opn (O' := [_, _, _, _, _, _, _, _, _, _]) (opv_callS 4 3 (match_fn 8 (by decide) sv (sv_sg 8) [a, b] [c, d] hps (Nat.le_of_ble_eq_true rfl) (Nat.le_of_ble_eq_true rfl)) rfl rfl rfl (Nat.le_of_ble_eq_true rfl) rfl (AV.bds_of_B _ rfl)) rfl rfl ?_
          refine RO.opv (opv_move rfl) rfl ?_
          refine RO.opv (v' := .d (.bool _)) (opv_extract rfl rfl) rfl ?_
          refine RO.opv (v' := .d (.int _ _)) (opv_extract rfl rfl) rfl ?_
          refine RO.opv (v' := .d (.int _ _)) (opv_extract rfl rfl) rfl ?_
          refine RO.opv (v' := .d (.bool _)) (opv_assign rfl) rfl ?_
          refine RO.opv (v' := .d (.int _ _)) (opv_assign rfl) rfl ?_
          refine RO.opv (v' := .d (.int _ _)) (opv_assign rfl) rfl ?_
          refine RO.nil ?_
          refine Runs.has [(4, .ref 0 0), (5, .ref 1 0), (6, .ref 2 0), (7, .ref 3 0), (8, .d (.bool false)), (9, .d (.bool true)), (10, .d (encL _)), (12, .ref 6 0), (13, .ref 9 0), (14, .d (.bool _)), (15, .d (.int _ _)), (16, .d (.int _ _))] ⟨rfl, rfl, rfl, rfl, rfl, rfl, rfl, rfl, rfl, rfl, rfl, rfl, trivial⟩ ?_
          refine Runs.seq ?_
          refine Runs.drawn (by kernel_rfl) [] [false, false, false, false, false, false, false, false, false, false, false, false, false, false, false, false, false, false] [false, false, false, false, false, false, false, false, false, false, true, false, false, false, false, false, false, false] (by decide +kernel) ?_
          refine RD.opv (v' := .ref 9 0) (opv_move rfl) rfl ?_
          refine RD.opv (v' := .d (encL _)) (opv_move rfl) rfl ?_
          refine RD.opv (v' := .d (enc _)) (opv_load_term rfl rfl rfl) rfl ?_
          refine RD.opv (v' := .d (enc _)) (opv_load_term rfl rfl rfl) rfl ?_
          refine RD.opv (v' := .d (.list (encs _))) (opv_bs_term2 rfl rfl ) rfl ?_
          refine RD.opv (v' := .d (enc _)) (opv_callF (make_fn ⟨#[102]⟩ [a, b] (Nat.le_of_ble_eq_true rfl)) rfl rfl rfl trivial) rfl ?_
          refine RD.opv (v' := .d (enc _)) (opv_load_term rfl rfl rfl) rfl ?_
          refine RD.opv (v' := .d (enc _)) (opv_load_term rfl rfl rfl) rfl ?_
          refine RD.opv (v' := .d (.list (encs _))) (opv_bs_term2 rfl rfl ) rfl ?_
          refine RD.opv (v' := .d (enc _)) (opv_callF (make_fn ⟨#[102]⟩ [c, d] (Nat.le_of_ble_eq_true rfl)) rfl rfl rfl trivial) rfl ?_
          refine RD.opn (O' := [_, _, _, _, _, _, _, _, _, _]) (opv_callS 7 3 (unify_fn 8 (by decide) sv (sv_sg 8) (.node 3 0 ⟨#[102]⟩ [a, b]) (.node 3 0 ⟨#[102]⟩ [c, d]) (pair_gd ga gb (by omega)) (pair_gd gc gd (by omega))) rfl rfl rfl (Nat.le_of_ble_eq_true rfl) rfl (AV.bds_of_B _ rfl)) rfl rfl trivial ?_
          refine RD.opv (opv_move rfl) rfl ?_
          refine RD.opv (v' := .d (.bool _)) (opv_extract rfl rfl) rfl ?_
          refine RD.opv (v' := .d (.int _ _)) (opv_extract rfl rfl) rfl ?_
          refine RD.opv (v' := .d (.int _ _)) (opv_extract rfl rfl) rfl ?_
          refine RD.opv (v' := .d (.bool _)) (opv_assign rfl) rfl ?_
          refine RD.opv (v' := .d (.int _ _)) (opv_assign rfl) rfl ?_
          refine RD.opv (v' := .d (.int _ _)) (opv_assign rfl) rfl ?_
          refine RD.nil ?_
          refine thenQ_normal ?_
          refine Runs.has [(8, .d (.bool false)), (9, .d (.bool true)), (12, .ref 6 0), (13, .ref 9 0), (14, .d (.bool _)), (15, .d (.int _ _)), (16, .d (.int _ _)), (17, .d (.bool _)), (18, .d (.int _ _)), (19, .d (.int _ _))] ⟨rfl, rfl, rfl, rfl, rfl, rfl, rfl, rfl, rfl, rfl, trivial⟩ ?_
          refine Runs.seq ?_
          refine Runs.rseq ?_
          refine RO.opv (v' := .d (.int _ _)) (opv_move rfl) rfl ?_
          refine RO.opv (v' := .d (.bool _)) (opv_bin rfl rfl rfl) rfl ?_
          refine RO.opc (opv_move rfl) (fun h5 => ?_) (fun h5 => ?_)
          · try simp only [decide_eq_true_eq, decide_eq_false_iff_not, beq_iff_eq, beq_eq_false_iff_ne, bne_iff_ne, bne_eq_false_iff_eq, Int.not_lt, Int.not_le, ne_eq, Bool.not_eq_true', Bool.not_eq_false', gt_iff_lt, ge_iff_le] at h5
            refine RO.off rfl ?_
            refine RO.off rfl ?_
            refine RO.opv (v' := .d (.bool true)) (opv_pick rfl rfl) rfl ?_
            refine RO.nil ?_
            refine Runs.condT rfl ?_
            refine Runs.has [(8, .d (.bool false)), (9, .d (.bool true)), (12, .ref 6 0), (13, .ref 9 0), (14, .d (.bool _)), (15, .d (.int _ _)), (17, .d (.bool _)), (18, .d (.int _ _))] ⟨rfl, rfl, rfl, rfl, rfl, rfl, rfl, rfl, trivial⟩ ?_
            refine Runs.rseq ?_
            refine RO.opv (v' := .d (.bool true)) (opv_move rfl) rfl ?_
            refine RO.opv (v' := .d (.bool true)) (opv_assign rfl) rfl ?_
            refine RO.nil ?_
            refine Runs.ret ?_
            refine thenQ_ret ?_
            refine EndQ.tmp (.inr rfl) rfl rfl 0 (by exact Nat.le_refl _) (by exact Nat.zero_le _) trivial ⟨?_, rfl⟩
            first
              | rfl
              | (refine bool_eq ?_; rw [hnm]; simp)
          · try simp only [decide_eq_true_eq, decide_eq_false_iff_not, beq_iff_eq, beq_eq_false_iff_ne, bne_iff_ne, bne_eq_false_iff_eq, Int.not_lt, Int.not_le, ne_eq, Bool.not_eq_true', Bool.not_eq_false', gt_iff_lt, ge_iff_le] at h5
            refine RO.opgv (v' := .d (.int _ _)) rfl (opv_move rfl) rfl ?_
            refine RO.opgv (v' := .d (.bool _)) rfl (opv_bin rfl rfl rfl) rfl ?_
            refine RO.opc (opv_pick rfl rfl) (fun h6 => ?_) (fun h6 => ?_)
            · try simp only [decide_eq_true_eq, decide_eq_false_iff_not, beq_iff_eq, beq_eq_false_iff_ne, bne_iff_ne, bne_eq_false_iff_eq, Int.not_lt, Int.not_le, ne_eq, Bool.not_eq_true', Bool.not_eq_false', gt_iff_lt, ge_iff_le] at h6
              skip
              refine RO.nil ?_
              refine Runs.condT rfl ?_
              refine Runs.has [(8, .d (.bool false)), (9, .d (.bool true)), (12, .ref 6 0), (13, .ref 9 0), (14, .d (.bool _)), (15, .d (.int _ _)), (17, .d (.bool _)), (18, .d (.int _ _))] ⟨rfl, rfl, rfl, rfl, rfl, rfl, rfl, rfl, trivial⟩ ?_
              refine Runs.rseq ?_
              refine RO.opv (v' := .d (.bool true)) (opv_move rfl) rfl ?_
              refine RO.opv (v' := .d (.bool true)) (opv_assign rfl) rfl ?_
              refine RO.nil ?_
              refine Runs.ret ?_
              refine thenQ_ret ?_
              refine EndQ.tmp (.inr rfl) rfl rfl 0 (by exact Nat.le_refl _) (by exact Nat.zero_le _) trivial ⟨?_, rfl⟩
              first
                | rfl
                | (refine bool_eq ?_; rw [hnm]; simp)
            · try simp only [decide_eq_true_eq, decide_eq_false_iff_not, beq_iff_eq, beq_eq_false_iff_ne, bne_iff_ne, bne_eq_false_iff_eq, Int.not_lt, Int.not_le, ne_eq, Bool.not_eq_true', Bool.not_eq_false', gt_iff_lt, ge_iff_le] at h6
              have hnm := un_names hq8 (s := sv) (a := a) (b := b) (c := c) (d := d) (nm := ⟨#[102]⟩) h6
              refine RO.nil ?_
              refine Runs.condF rfl ?_
              refine Runs.skip ?_
              refine thenQ_normal ?_
              refine Runs.has [(8, .d (.bool false)), (9, .d (.bool true)), (12, .ref 6 0), (13, .ref 9 0), (14, .d (.bool _)), (15, .d (.int _ _)), (17, .d (.bool _)), (18, .d (.int _ _))] ⟨rfl, rfl, rfl, rfl, rfl, rfl, rfl, rfl, trivial⟩ ?_
              refine Runs.rseq ?_
              refine RO.opv (v' := .d (.bool true)) (opv_move rfl) rfl ?_
              refine RO.opv (v' := .d (.bool true)) (opv_move rfl) rfl ?_
              refine RO.opgv (v' := .d (.bool _)) rfl (opv_move rfl) rfl ?_
              refine RO.opgv (v' := .d (.bool _)) rfl (opv_move rfl) rfl ?_
              refine RO.opgv (v' := .d (.bool _)) rfl (opv_bool rfl rfl rfl) rfl ?_
              refine RO.opv (v' := .d (.bool _)) (opv_pick rfl rfl) rfl ?_
              refine RO.opc (opv_move rfl) (fun h7 => ?_) (fun h7 => ?_)
              · try simp only [decide_eq_true_eq, decide_eq_false_iff_not, beq_iff_eq, beq_eq_false_iff_ne, bne_iff_ne, bne_eq_false_iff_eq, Int.not_lt, Int.not_le, ne_eq, Bool.not_eq_true', Bool.not_eq_false', gt_iff_lt, ge_iff_le] at h7
                refine RO.opgv (v' := .d (.int _ _)) rfl (opv_move rfl) rfl ?_
                refine RO.opgv (v' := .d (.int _ _)) rfl (opv_move rfl) rfl ?_
                refine RO.opgv (v' := .d (.bool _)) rfl (opv_bin rfl rfl rfl) rfl ?_
                refine RO.opv (v' := .d (.bool _)) (opv_pick rfl rfl) rfl ?_
                refine RO.opc (opv_move rfl) (fun h8 => ?_) (fun h8 => ?_)
                · try simp only [decide_eq_true_eq, decide_eq_false_iff_not, beq_iff_eq, beq_eq_false_iff_ne, bne_iff_ne, bne_eq_false_iff_eq, Int.not_lt, Int.not_le, ne_eq, Bool.not_eq_true', Bool.not_eq_false', gt_iff_lt, ge_iff_le] at h8
                  refine RO.opgv (v' := .ref 6 0) rfl (opv_move rfl) rfl ?_
                  refine RO.opgn (v' := .d (.int _ _)) (O' := [_, _, _, _, _, _, _, _, _, _]) rfl (opv_callS 4 3 (mark_fn (matchS (C 8) sv [a, b] [c, d]).1) rfl rfl rfl (Nat.le_of_ble_eq_true rfl) rfl (AV.bds_of_B _ rfl)) rfl rfl ?_
                  refine RO.opgv (v' := .ref 9 0) rfl (opv_move rfl) rfl ?_
                  refine RO.opgn (v' := .d (.int _ _)) (O' := [_, _, _, _, _, _, _, _, _, _]) rfl (opv_callS 7 3 (mark_fn (matchS (C 8) sv [(.node 3 0 ⟨#[102]⟩ [a, b])] [(.node 3 0 ⟨#[102]⟩ [c, d])]).1) rfl rfl rfl (Nat.le_of_ble_eq_true rfl) rfl (AV.bds_of_B _ rfl)) rfl rfl ?_
                  refine RO.opgv (v' := .d (.bool _)) rfl (opv_bin rfl rfl rfl) rfl ?_
                  refine RO.opv (v' := .d (.bool _)) (opv_pick rfl rfl) rfl ?_
                  refine RO.opv (v' := .d (.bool _)) (opv_assign rfl) rfl ?_
                  refine RO.nil ?_
                  refine Runs.ret ?_
                  refine EndQ.tmp (.inr rfl) rfl rfl 0 (by exact Nat.le_refl _) (by exact Nat.zero_le _) trivial ⟨?_, rfl⟩
                  first
                    | rfl
                    | (refine bool_eq ?_; rw [hnm]; simp)
                · try simp only [decide_eq_true_eq, decide_eq_false_iff_not, beq_iff_eq, beq_eq_false_iff_ne, bne_iff_ne, bne_eq_false_iff_eq, Int.not_lt, Int.not_le, ne_eq, Bool.not_eq_true', Bool.not_eq_false', gt_iff_lt, ge_iff_le] at h8
                  rw [hnm] at h8; exact absurd rfl h8
              · try simp only [decide_eq_true_eq, decide_eq_false_iff_not, beq_iff_eq, beq_eq_false_iff_ne, bne_iff_ne, bne_eq_false_iff_eq, Int.not_lt, Int.not_le, ne_eq, Bool.not_eq_true', Bool.not_eq_false', gt_iff_lt, ge_iff_le] at h7
                rw [hnm] at h7; simp at h7
end Go.Proofs.Ytegfpnpghfcopaa.AM
