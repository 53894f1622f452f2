import Derived.Test.YtegfpnpghfcopaaL0
namespace Go.Proofs.Ytegfpnpghfcopaa.AM
open Go
set_option linter.unusedVariables false
set_option linter.unusedSimpArgs false
theorem unifyOne_fn (a b : Term) (g1 : a.bulk ≤ 2 ^ 20) (_g1' : a.fits) (g2 : b.bulk ≤ 2 ^ 20) (_g2' : b.fits) : Fn Try.prog 3 [.d (enc a), .d (enc b)] [] (.d (.bool true)) [] := by
  have hq8 : 8 < 16 := by decide
  refine Does.run Try.func3 rfl Try.ntmps3 rfl fun K hK => ?_
  refine Runs.rseq ?_
  refine RO.opn (v' := .ref 0 0) (O' := [_]) (opv_box_term rfl) rfl rfl ?_
  refine RO.opn (v' := .ref 1 0) (O' := [_, _]) (opv_box_term rfl) rfl rfl ?_
  refine RO.opv (v' := .d (.bool false)) (opv_assign rfl) rfl ?_
  refine RO.nil ?_
  refine Runs.has [(2, .ref 0 0), (3, .ref 1 0), (4, .d (.bool false))] ⟨rfl, rfl, rfl, trivial⟩ ?_
  refine Runs.rseq ?_
  refine RO.opv (v' := .d (.bool true)) (opv_callF (shown_fn) rfl rfl rfl trivial) rfl ?_
  refine RO.opv (v' := .d (.bool true)) (opv_assign rfl) rfl ?_
  refine RO.nil ?_
  refine Runs.has [(2, .ref 0 0), (3, .ref 1 0), (4, .d (.bool false)), (5, .d (.bool true))] ⟨rfl, rfl, rfl, rfl, trivial⟩ ?_
  refine Runs.rseq ?_
  refine RO.opv (v' := .d (.list (encPs _))) (opv_callF (chainp_fn 8 (by decide)) rfl rfl rfl trivial) rfl ?_
  refine RO.opv (opv_callF (lnewC_fn 8 (by decide)) rfl rfl rfl ⟨trivial, trivial, trivial⟩) rfl ?_
  refine RO.opv (opv_move rfl) rfl ?_
  refine RO.opv (v' := .d (encL _)) (opv_extract rfl rfl) rfl ?_
  refine RO.opv (v' := .d (.int _ _)) (opv_extract rfl rfl) rfl ?_
  refine RO.opv (v' := .d (encL _)) (opv_assign rfl) rfl ?_
  refine RO.opv (v' := .d (.int _ _)) (opv_assign rfl) rfl ?_
  refine RO.nil ?_
  refine Runs.has [(2, .ref 0 0), (3, .ref 1 0), (4, .d (.bool false)), (5, .d (.bool true)), (6, .d (encL _))] ⟨rfl, rfl, rfl, rfl, rfl, trivial⟩ ?_
  refine Runs.rseq ?_
  refine RO.opn (v' := .ref 4 0) (O' := [_, _, _, _, _]) (opv_callN 2 (svars_fn) rfl rfl rfl) rfl rfl ?_
  refine RO.opv (v' := .ref 4 0) (opv_assign rfl) rfl ?_
  refine RO.nil ?_
  refine Runs.has [(2, .ref 0 0), (3, .ref 1 0), (4, .d (.bool false)), (5, .d (.bool true)), (6, .d (encL _)), (8, .ref 4 0)] ⟨rfl, rfl, rfl, rfl, rfl, rfl, trivial⟩ ?_
  refine Runs.seq ?_
  refine Runs.rseq ?_
  refine RO.opv (v' := .d (encL _)) (opv_move rfl) rfl ?_
  refine RO.opv (v' := .d (.bool false)) (opv_eqnil rfl rfl rfl) rfl ?_
  refine RO.opv (v' := .d (.bool false)) (opv_move rfl) rfl ?_
  refine RO.opgv (v' := .ref 4 0) rfl (opv_move rfl) rfl ?_
  refine RO.opgv (v' := .d (.bool false)) rfl (opv_eqnil_ref rfl rfl rfl) rfl ?_
  refine RO.opv (v' := .d (.bool false)) (opv_pick rfl rfl) rfl ?_
  refine RO.opv (v' := .d (.bool false)) (opv_move rfl) rfl ?_
  refine RO.opgv (v' := .d (enc _)) rfl (opv_load_term rfl rfl rfl) rfl ?_
  refine RO.opgv (v' := .d (.bool _)) rfl (opv_callF (may_fn a g1) rfl rfl rfl trivial) rfl ?_
  refine RO.opgv (v' := .d (.bool _)) rfl (opv_not rfl rfl) rfl ?_
  refine RO.opv (v' := .d (.bool _)) (opv_pick rfl rfl) rfl ?_
  refine RO.opc (opv_move rfl) (fun h1 => ?_) (fun h1 => ?_)
  · try simp only [decide_eq_true_eq, decide_eq_false_iff_not, beq_iff_eq, beq_eq_false_iff_ne, bne_iff_ne, bne_eq_false_iff_eq, Int.not_lt, Int.not_le, ne_eq, Bool.not_eq_true', Bool.not_eq_false', gt_iff_lt, ge_iff_le] at h1
    skip
    refine RO.off rfl ?_
    refine RO.off rfl ?_
    refine RO.off rfl ?_
    refine RO.opv (v' := .d (.bool true)) (opv_pick rfl rfl) rfl ?_
    refine RO.nil ?_
    refine Runs.condT rfl ?_
    refine Runs.has [(2, .ref 0 0), (3, .ref 1 0), (4, .d (.bool false)), (5, .d (.bool true)), (6, .d (encL _)), (8, .ref 4 0)] ⟨rfl, rfl, rfl, rfl, rfl, rfl, trivial⟩ ?_
    refine Runs.rseq ?_
    refine RO.opv (v' := .d (.bool true)) (opv_move rfl) rfl ?_
    refine RO.opv (v' := .d (.bool true)) (opv_move rfl) rfl ?_
    refine RO.opgv (v' := .d (encL _)) rfl (opv_move rfl) rfl ?_
    refine RO.opgv (v' := .d (.bool true)) rfl (opv_nenil rfl rfl rfl) rfl ?_
    refine RO.opv (v' := .d (.bool true)) (opv_pick rfl rfl) rfl ?_
    refine RO.opv (v' := .d (.bool true)) (opv_move rfl) rfl ?_
    refine RO.opgv (v' := .ref 4 0) rfl (opv_move rfl) rfl ?_
    refine RO.opgv (v' := .d (.bool true)) rfl (opv_nenil_ref rfl rfl rfl) rfl ?_
    refine RO.opv (v' := .d (.bool true)) (opv_pick rfl rfl) rfl ?_
    refine RO.opv (v' := .d (.bool true)) (opv_assign rfl) rfl ?_
    refine RO.nil ?_
    refine Runs.ret ?_
    refine thenQ_ret ?_
    refine EndQ.tmp (.inr rfl) rfl rfl 0 (by exact Nat.le_refl _) (by exact Nat.zero_le _) trivial ⟨?_, rfl⟩
    first
      | rfl
      | (refine bool_eq ?_; rw [hfu.1, same_refl])
  · try simp only [decide_eq_true_eq, decide_eq_false_iff_not, beq_iff_eq, beq_eq_false_iff_ne, bne_iff_ne, bne_eq_false_iff_eq, Int.not_lt, Int.not_le, ne_eq, Bool.not_eq_true', Bool.not_eq_false', gt_iff_lt, ge_iff_le] at h1
    have ga := may_gd h1 g1
    refine RO.opgv (v' := .d (enc _)) rfl (opv_load_term rfl rfl rfl) rfl ?_
    refine RO.opgv (v' := .d (.bool _)) rfl (opv_callF (may_fn b g2) rfl rfl rfl trivial) rfl ?_
    refine RO.opgv (v' := .d (.bool _)) rfl (opv_not rfl rfl) rfl ?_
    refine RO.opc (opv_pick rfl rfl) (fun h2 => ?_) (fun h2 => ?_)
    · try simp only [decide_eq_true_eq, decide_eq_false_iff_not, beq_iff_eq, beq_eq_false_iff_ne, bne_iff_ne, bne_eq_false_iff_eq, Int.not_lt, Int.not_le, ne_eq, Bool.not_eq_true', Bool.not_eq_false', gt_iff_lt, ge_iff_le] at h2
      skip
      refine RO.nil ?_
      refine Runs.condT rfl ?_
      refine Runs.has [(2, .ref 0 0), (3, .ref 1 0), (4, .d (.bool false)), (5, .d (.bool true)), (6, .d (encL _)), (8, .ref 4 0)] ⟨rfl, rfl, rfl, rfl, rfl, rfl, trivial⟩ ?_
      refine Runs.rseq ?_
      refine RO.opv (v' := .d (.bool true)) (opv_move rfl) rfl ?_
      refine RO.opv (v' := .d (.bool true)) (opv_move rfl) rfl ?_
      refine RO.opgv (v' := .d (encL _)) rfl (opv_move rfl) rfl ?_
      refine RO.opgv (v' := .d (.bool true)) rfl (opv_nenil rfl rfl rfl) rfl ?_
      refine RO.opv (v' := .d (.bool true)) (opv_pick rfl rfl) rfl ?_
      refine RO.opv (v' := .d (.bool true)) (opv_move rfl) rfl ?_
      refine RO.opgv (v' := .ref 4 0) rfl (opv_move rfl) rfl ?_
      refine RO.opgv (v' := .d (.bool true)) rfl (opv_nenil_ref rfl rfl rfl) rfl ?_
      refine RO.opv (v' := .d (.bool true)) (opv_pick rfl rfl) rfl ?_
      refine RO.opv (v' := .d (.bool true)) (opv_assign rfl) rfl ?_
      refine RO.nil ?_
      refine Runs.ret ?_
      refine thenQ_ret ?_
      refine EndQ.tmp (.inr rfl) rfl rfl 0 (by exact Nat.le_refl _) (by exact Nat.zero_le _) trivial ⟨?_, rfl⟩
      first
        | rfl
        | (refine bool_eq ?_; rw [hfu.1, same_refl])
    · try simp only [decide_eq_true_eq, decide_eq_false_iff_not, beq_iff_eq, beq_eq_false_iff_ne, bne_iff_ne, bne_eq_false_iff_eq, Int.not_lt, Int.not_le, ne_eq, Bool.not_eq_true', Bool.not_eq_false', gt_iff_lt, ge_iff_le] at h2
      have gb := may_gd h2 g2
      obtain ⟨hg1, hex1⟩ := un_good hq8 (sv_sg 8) ga gb
      refine RO.nil ?_
      refine Runs.condF rfl ?_
      refine Runs.skip ?_
      refine thenQ_normal ?_
      refine Runs.has [(2, .ref 0 0), (3, .ref 1 0), (4, .d (.bool false)), (5, .d (.bool true)), (6, .d (encL _)), (8, .ref 4 0)] ⟨rfl, rfl, rfl, rfl, rfl, rfl, trivial⟩ ?_
      refine Runs.rseq ?_
      refine RO.opv (v' := .ref 4 0) (opv_move rfl) rfl ?_
      refine RO.opv (v' := .d (encL _)) (opv_move rfl) rfl ?_
      refine RO.opv (v' := .d (enc _)) (opv_load_term rfl rfl rfl) rfl ?_
      refine RO.opv (v' := .d (enc _)) (opv_load_term rfl rfl rfl) rfl ?_
      refine RO.opn (O' := [_, _, _, _, _]) (opv_callS 2 3 (unify_fn 8 (by decide) sv (sv_sg 8) a b ga gb) rfl rfl rfl (Nat.le_of_ble_eq_true rfl) rfl (AV.bds_of_B _ rfl)) rfl rfl ?_
      refine RO.opv (opv_move rfl) rfl ?_
      refine RO.opv (v' := .d (.bool _)) (opv_extract rfl rfl) rfl ?_
      refine RO.opv (v' := .d (.int _ _)) (opv_extract rfl rfl) rfl ?_
      refine RO.opv (v' := .d (.int _ _)) (opv_extract rfl rfl) rfl ?_
      refine RO.opv (v' := .d (.bool _)) (opv_assign rfl) rfl ?_
      refine RO.opv (v' := .d (.int _ _)) (opv_assign rfl) rfl ?_
      refine RO.opv (v' := .d (.int _ _)) (opv_assign rfl) rfl ?_
      refine RO.nil ?_
      refine Runs.has [(2, .ref 0 0), (3, .ref 1 0), (4, .d (.bool false)), (5, .d (.bool true)), (6, .d (encL _)), (8, .ref 4 0), (9, .d (.bool _)), (10, .d (.int _ _)), (11, .d (.int _ _))] ⟨rfl, rfl, rfl, rfl, rfl, rfl, rfl, rfl, rfl, trivial⟩ ?_
      refine Runs.seq ?_
      refine Runs.seq ?_
      refine Runs.drawn (by kernel_rfl) [] [false, false, false, false, false, false, false, false, false, false, false, false, false, false, false, false, false, false, false] [false, false, false, false, false, false, false, false, false, false, false, false, false, false, false, false, false, false, false] (by decide +kernel) ?_
      refine RD.opv (v' := .d (encL _)) (opv_move rfl) rfl ?_
      refine RD.opv (v' := .d (.int _ _)) (opv_move rfl) rfl ?_
      refine RD.opv (v' := .d (encL _)) (opv_move rfl) rfl ?_
      refine RD.opv (v' := .d (encL _)) (opv_move rfl) rfl ?_
      refine RD.opv (v' := .d (enc _)) (opv_load_term rfl rfl rfl) rfl ?_
      refine RD.opv (v' := .d (.int _ _)) (opv_callF (sjoin_fn (C 8) (C_ok (by decide)) a (by omega)) rfl rfl rfl trivial) rfl ?_
      refine RD.opv (v' := .d (encL _)) (opv_move rfl) rfl ?_
      refine RD.opv (v' := .d (enc _)) (opv_load_term rfl rfl rfl) rfl ?_
      refine RD.opv (v' := .d (.int _ _)) (opv_callF (sjoin_fn (C 8) (C_ok (by decide)) b (by omega)) rfl rfl rfl trivial) rfl ?_
      refine RD.opv (v' := .d (.int _ _)) (opv_callF (ljoin_fn (C 8) (C_ok (by decide)) _ _) rfl rfl rfl trivial) rfl ?_
      refine RD.opv (v' := .d (.bool _)) (opv_callF (leq_fn (C 8) (C_ok (by decide)) _ _) rfl rfl rfl trivial) rfl ?_
      refine RD.opv (v' := .d (.bool _)) (opv_not rfl rfl) rfl ?_
      refine RD.opc (opv_move rfl) (fun h3 => ?_) (fun h3 => ?_)
      · try simp only [decide_eq_true_eq, decide_eq_false_iff_not, beq_iff_eq, beq_eq_false_iff_ne, bne_iff_ne, bne_eq_false_iff_eq, Int.not_lt, Int.not_le, ne_eq, Bool.not_eq_true', Bool.not_eq_false', gt_iff_lt, ge_iff_le] at h3
        have hlo := h3
        rw [un_lo hq8 ga gb] at hlo; cases hlo
      · try simp only [decide_eq_true_eq, decide_eq_false_iff_not, beq_iff_eq, beq_eq_false_iff_ne, bne_iff_ne, bne_eq_false_iff_eq, Int.not_lt, Int.not_le, ne_eq, Bool.not_eq_true', Bool.not_eq_false', gt_iff_lt, ge_iff_le] at h3
        have hlo := h3
        refine RD.opgv (v' := .d (.int _ _)) rfl (opv_move rfl) rfl ?_
        refine RD.opgv (v' := .d (.bool _)) rfl (opv_bin rfl rfl rfl) rfl ?_
        refine RD.opgc rfl (opv_move rfl) (fun h4 => ?_) (fun h4 => ?_)
        · try simp only [decide_eq_true_eq, decide_eq_false_iff_not, beq_iff_eq, beq_eq_false_iff_ne, bne_iff_ne, bne_eq_false_iff_eq, Int.not_lt, Int.not_le, ne_eq, Bool.not_eq_true', Bool.not_eq_false', gt_iff_lt, ge_iff_le] at h4
          have he := h4
          refine RD.opgv (v' := .d (.bool _)) rfl (opv_move rfl) rfl ?_
          refine RD.opgv (v' := .d (.bool _)) rfl (opv_pick rfl rfl) rfl ?_
          refine RD.opc (opv_pick rfl rfl) (fun h5 => ?_) (fun h5 => ?_)
          · try simp only [decide_eq_true_eq, decide_eq_false_iff_not, beq_iff_eq, beq_eq_false_iff_ne, bne_iff_ne, bne_eq_false_iff_eq, Int.not_lt, Int.not_le, ne_eq, Bool.not_eq_true', Bool.not_eq_false', gt_iff_lt, ge_iff_le] at h5
            exact absurd (un_err.1 h5) he
          · try simp only [decide_eq_true_eq, decide_eq_false_iff_not, beq_iff_eq, beq_eq_false_iff_ne, bne_iff_ne, bne_eq_false_iff_eq, Int.not_lt, Int.not_le, ne_eq, Bool.not_eq_true', Bool.not_eq_false', gt_iff_lt, ge_iff_le] at h5
            refine RD.nil ?_
            refine thenQ_normal ?_
            refine Runs.condF rfl ?_
            refine Runs.skip ?_
            refine thenQ_normal ?_
            refine Runs.has [(2, .ref 0 0), (3, .ref 1 0), (4, .d (.bool false)), (5, .d (.bool true)), (6, .d (encL _)), (8, .ref 4 0), (9, .d (.bool _))] ⟨rfl, rfl, rfl, rfl, rfl, rfl, rfl, trivial⟩ ?_
            refine Runs.seq ?_
            refine Runs.rseq ?_
            refine RO.opv (v' := .d (.bool _)) (opv_move rfl) rfl ?_
            refine RO.opc (opv_not rfl rfl) (fun h6 => ?_) (fun h6 => ?_)
            · try simp only [decide_eq_true_eq, decide_eq_false_iff_not, beq_iff_eq, beq_eq_false_iff_ne, bne_iff_ne, bne_eq_false_iff_eq, Int.not_lt, Int.not_le, ne_eq, Bool.not_eq_true', Bool.not_eq_false', gt_iff_lt, ge_iff_le] at h6
              skip
              refine RO.nil ?_
              refine Runs.condT rfl ?_
              refine Runs.has [(2, .ref 0 0), (3, .ref 1 0), (4, .d (.bool false)), (5, .d (.bool true)), (6, .d (encL _)), (8, .ref 4 0)] ⟨rfl, rfl, rfl, rfl, rfl, rfl, trivial⟩ ?_
              refine Runs.rseq ?_
              refine RO.opv (v' := .d (.bool true)) (opv_move rfl) rfl ?_
              refine RO.opv (v' := .d (.bool true)) (opv_assign rfl) rfl ?_
              refine RO.nil ?_
              refine Runs.ret ?_
              refine thenQ_ret ?_
              refine EndQ.tmp (.inr rfl) rfl rfl 0 (by exact Nat.le_refl _) (by exact Nat.zero_le _) trivial ⟨?_, rfl⟩
              first
                | rfl
                | (refine bool_eq ?_; rw [hfu.1, same_refl])
            · try simp only [decide_eq_true_eq, decide_eq_false_iff_not, beq_iff_eq, beq_eq_false_iff_ne, bne_iff_ne, bne_eq_false_iff_eq, Int.not_lt, Int.not_le, ne_eq, Bool.not_eq_true', Bool.not_eq_false', gt_iff_lt, ge_iff_le] at h6
              have his : (matchS (C 8) sv [a] [b]).2.1 = true := h6
              refine RO.nil ?_
              refine Runs.condF rfl ?_
              refine Runs.skip ?_
              refine thenQ_normal ?_
              refine Runs.has [(2, .ref 0 0), (3, .ref 1 0), (4, .d (.bool false)), (5, .d (.bool true)), (6, .d (encL _)), (8, .ref 4 0)] ⟨rfl, rfl, rfl, rfl, rfl, rfl, trivial⟩ ?_
              refine Runs.rseq ?_
              refine RO.opv (v' := .ref 4 0) (opv_move rfl) rfl ?_
              refine RO.opv (v' := .d (enc _)) (opv_load_term rfl rfl rfl) rfl ?_
              refine RO.opn (O' := [_, _, _, _, _]) (opv_callS 2 3 (full_fn (matchS (C 8) sv [a] [b]).1 a (hg1.ok.small' (Nat.le_of_ble_eq_true rfl)) hg1.ok.ends (Nat.le_trans g1 (Nat.le_of_ble_eq_true rfl))) rfl rfl rfl (Nat.le_of_ble_eq_true rfl) rfl (AV.bds_of_B _ rfl)) rfl rfl ?_
              refine RO.opv (opv_move rfl) rfl ?_
              refine RO.opv (v' := .d (enc _)) (opv_extract rfl rfl) rfl ?_
              refine RO.opv (v' := .d (.int _ _)) (opv_extract rfl rfl) rfl ?_
              refine RO.opn (v' := .ref 5 0) (O' := [_, _, _, _, _, _]) (opv_alloc) rfl rfl ?_
              refine RO.op0n (O' := [_, _, _, _, _, _]) (opv_store_term rfl rfl rfl (Nat.le_of_ble_eq_true rfl)) rfl ?_
              refine RO.opv (v' := .d (.int _ _)) (opv_assign rfl) rfl ?_
              refine RO.nil ?_
              refine Runs.has [(2, .ref 0 0), (3, .ref 1 0), (4, .d (.bool false)), (5, .d (.bool true)), (6, .d (encL _)), (8, .ref 4 0), (12, .ref 5 0), (13, .d (.int _ _))] ⟨rfl, rfl, rfl, rfl, rfl, rfl, rfl, rfl, trivial⟩ ?_
              refine Runs.rseq ?_
              refine RO.opv (v' := .ref 4 0) (opv_move rfl) rfl ?_
              refine RO.opv (v' := .d (enc _)) (opv_load_term rfl rfl rfl) rfl ?_
              refine RO.opn (O' := [_, _, _, _, _, _]) (opv_callS 2 3 (full_fn (matchS (C 8) sv [a] [b]).1 b (hg1.ok.small' (Nat.le_of_ble_eq_true rfl)) hg1.ok.ends (Nat.le_trans g2 (Nat.le_of_ble_eq_true rfl))) rfl rfl rfl (Nat.le_of_ble_eq_true rfl) rfl (AV.bds_of_B _ rfl)) rfl rfl ?_
              refine RO.opv (opv_move rfl) rfl ?_
              refine RO.opv (v' := .d (enc _)) (opv_extract rfl rfl) rfl ?_
              refine RO.opv (v' := .d (.int _ _)) (opv_extract rfl rfl) rfl ?_
              refine RO.opn (v' := .ref 6 0) (O' := [_, _, _, _, _, _, _]) (opv_alloc) rfl rfl ?_
              refine RO.op0n (O' := [_, _, _, _, _, _, _]) (opv_store_term rfl rfl rfl (Nat.le_of_ble_eq_true rfl)) rfl ?_
              refine RO.opv (v' := .d (.int _ _)) (opv_assign rfl) rfl ?_
              refine RO.nil ?_
              refine Runs.has [(2, .ref 0 0), (3, .ref 1 0), (4, .d (.bool false)), (5, .d (.bool true)), (6, .d (encL _)), (8, .ref 4 0), (12, .ref 5 0), (13, .d (.int _ _)), (14, .ref 6 0), (15, .d (.int _ _))] ⟨rfl, rfl, rfl, rfl, rfl, rfl, rfl, rfl, rfl, rfl, trivial⟩ ?_
              refine Runs.rseq ?_
              refine RO.opv (v' := .ref 4 0) (opv_move rfl) rfl ?_
              refine RO.opn (v' := .d (.int _ _)) (O' := [_, _, _, _, _, _, _]) (opv_callS 2 3 (mark_fn (matchS (C 8) sv [a] [b]).1) rfl rfl rfl (Nat.le_of_ble_eq_true rfl) rfl (AV.bds_of_B _ rfl)) rfl rfl ?_
              refine RO.opv (v' := .d (.int _ _)) (opv_assign rfl) rfl ?_
              refine RO.nil ?_
              refine Runs.has [(2, .ref 0 0), (3, .ref 1 0), (4, .d (.bool false)), (5, .d (.bool true)), (6, .d (encL _)), (8, .ref 4 0), (12, .ref 5 0), (13, .d (.int _ _)), (14, .ref 6 0), (15, .d (.int _ _)), (16, .d (.int _ _))] ⟨rfl, rfl, rfl, rfl, rfl, rfl, rfl, rfl, rfl, rfl, rfl, trivial⟩ ?_
              refine Runs.rseq ?_
              refine RO.opv (v' := .ref 4 0) (opv_move rfl) rfl ?_
              refine RO.opv (v' := .d (encL _)) (opv_move rfl) rfl ?_
              refine RO.opv (v' := .d (enc _)) (opv_load_term rfl rfl rfl) rfl ?_
              refine RO.opv (v' := .d (enc _)) (opv_load_term rfl rfl rfl) rfl ?_
              refine RO.opn (O' := [_, _, _, _, _, _, _]) (opv_callS 2 3 (unify_fn 8 (by decide) (matchS (C 8) sv [a] [b]).1 hg1 a b ga gb) rfl rfl rfl (Nat.le_of_ble_eq_true rfl) rfl (AV.bds_of_B _ rfl)) rfl rfl ?_
              refine RO.opv (opv_move rfl) rfl ?_
              refine RO.opv (v' := .d (.bool _)) (opv_extract rfl rfl) rfl ?_
              refine RO.opv (v' := .d (.int _ _)) (opv_extract rfl rfl) rfl ?_
              refine RO.opv (v' := .d (.int _ _)) (opv_extract rfl rfl) rfl ?_
              refine RO.opv (v' := .d (.bool _)) (opv_assign rfl) rfl ?_
              refine RO.opv (v' := .d (.int _ _)) (opv_assign rfl) rfl ?_
              refine RO.opv (v' := .d (.int _ _)) (opv_assign rfl) rfl ?_
              refine RO.nil ?_
              refine Runs.has [(4, .d (.bool false)), (5, .d (.bool true)), (8, .ref 4 0), (12, .ref 5 0), (13, .d (.int _ _)), (14, .ref 6 0), (15, .d (.int _ _)), (16, .d (.int _ _)), (17, .d (.bool _)), (19, .d (.int _ _))] ⟨rfl, rfl, rfl, rfl, rfl, rfl, rfl, rfl, rfl, rfl, trivial⟩ ?_
              refine Runs.seq ?_
              refine Runs.rseq ?_
              refine RO.opv (v' := .d (.int _ _)) (opv_move rfl) rfl ?_
              refine RO.opv (v' := .d (.bool _)) (opv_bin rfl rfl rfl) rfl ?_
              refine RO.opc (opv_move rfl) (fun h7 => ?_) (fun h7 => ?_)
              · try simp only [decide_eq_true_eq, decide_eq_false_iff_not, beq_iff_eq, beq_eq_false_iff_ne, bne_iff_ne, bne_eq_false_iff_eq, Int.not_lt, Int.not_le, ne_eq, Bool.not_eq_true', Bool.not_eq_false', gt_iff_lt, ge_iff_le] at h7
                have hf1 := h7
                refine RO.off rfl ?_
                refine RO.off rfl ?_
                refine RO.opv (v' := .d (.bool true)) (opv_pick rfl rfl) rfl ?_
                refine RO.opv (v' := .d (.bool true)) (opv_move rfl) rfl ?_
                refine RO.off rfl ?_
                refine RO.off rfl ?_
                refine RO.opv (v' := .d (.bool true)) (opv_pick rfl rfl) rfl ?_
                refine RO.nil ?_
                refine Runs.condT rfl ?_
                refine Runs.has [(4, .d (.bool false)), (5, .d (.bool true)), (8, .ref 4 0), (12, .ref 5 0), (14, .ref 6 0), (16, .d (.int _ _)), (17, .d (.bool _))] ⟨rfl, rfl, rfl, rfl, rfl, rfl, rfl, trivial⟩ ?_
                refine Runs.rseq ?_
                refine RO.opv (v' := .d (.bool true)) (opv_move rfl) rfl ?_
                refine RO.opv (v' := .d (.bool true)) (opv_assign rfl) rfl ?_
                refine RO.nil ?_
                refine Runs.ret ?_
                refine thenQ_ret ?_
                refine EndQ.tmp (.inr rfl) rfl rfl 0 (by exact Nat.le_refl _) (by exact Nat.zero_le _) trivial ⟨?_, rfl⟩
                first
                  | rfl
                  | (refine bool_eq ?_; rw [hfu.1, same_refl])
              · try simp only [decide_eq_true_eq, decide_eq_false_iff_not, beq_iff_eq, beq_eq_false_iff_ne, bne_iff_ne, bne_eq_false_iff_eq, Int.not_lt, Int.not_le, ne_eq, Bool.not_eq_true', Bool.not_eq_false', gt_iff_lt, ge_iff_le] at h7
                have hf1 := h7
                refine RO.opgv (v' := .d (.int _ _)) rfl (opv_move rfl) rfl ?_
                refine RO.opgv (v' := .d (.bool _)) rfl (opv_bin rfl rfl rfl) rfl ?_
                refine RO.opv (v' := .d (.bool _)) (opv_pick rfl rfl) rfl ?_
                refine RO.opc (opv_move rfl) (fun h8 => ?_) (fun h8 => ?_)
                · try simp only [decide_eq_true_eq, decide_eq_false_iff_not, beq_iff_eq, beq_eq_false_iff_ne, bne_iff_ne, bne_eq_false_iff_eq, Int.not_lt, Int.not_le, ne_eq, Bool.not_eq_true', Bool.not_eq_false', gt_iff_lt, ge_iff_le] at h8
                  have hf2 := h8
                  refine RO.off rfl ?_
                  refine RO.off rfl ?_
                  refine RO.opv (v' := .d (.bool true)) (opv_pick rfl rfl) rfl ?_
                  refine RO.nil ?_
                  refine Runs.condT rfl ?_
                  refine Runs.has [(4, .d (.bool false)), (5, .d (.bool true)), (8, .ref 4 0), (12, .ref 5 0), (14, .ref 6 0), (16, .d (.int _ _)), (17, .d (.bool _))] ⟨rfl, rfl, rfl, rfl, rfl, rfl, rfl, trivial⟩ ?_
                  refine Runs.rseq ?_
                  refine RO.opv (v' := .d (.bool true)) (opv_move rfl) rfl ?_
                  refine RO.opv (v' := .d (.bool true)) (opv_assign rfl) rfl ?_
                  refine RO.nil ?_
                  refine Runs.ret ?_
                  refine thenQ_ret ?_
                  refine EndQ.tmp (.inr rfl) rfl rfl 0 (by exact Nat.le_refl _) (by exact Nat.zero_le _) trivial ⟨?_, rfl⟩
                  first
                    | rfl
                    | (refine bool_eq ?_; rw [hfu.1, same_refl])
                · try simp only [decide_eq_true_eq, decide_eq_false_iff_not, beq_iff_eq, beq_eq_false_iff_ne, bne_iff_ne, bne_eq_false_iff_eq, Int.not_lt, Int.not_le, ne_eq, Bool.not_eq_true', Bool.not_eq_false', gt_iff_lt, ge_iff_le] at h8
                  have hf2 := h8
                  refine RO.opgv (v' := .d (.int _ _)) rfl (opv_move rfl) rfl ?_
                  refine RO.opgv (v' := .d (.bool _)) rfl (opv_bin rfl rfl rfl) rfl ?_
                  refine RO.opc (opv_pick rfl rfl) (fun h9 => ?_) (fun h9 => ?_)
                  · try simp only [decide_eq_true_eq, decide_eq_false_iff_not, beq_iff_eq, beq_eq_false_iff_ne, bne_iff_ne, bne_eq_false_iff_eq, Int.not_lt, Int.not_le, ne_eq, Bool.not_eq_true', Bool.not_eq_false', gt_iff_lt, ge_iff_le] at h9
                    skip
                    refine RO.nil ?_
                    refine Runs.condT rfl ?_
                    refine Runs.has [(4, .d (.bool false)), (5, .d (.bool true)), (8, .ref 4 0), (12, .ref 5 0), (14, .ref 6 0), (16, .d (.int _ _)), (17, .d (.bool _))] ⟨rfl, rfl, rfl, rfl, rfl, rfl, rfl, trivial⟩ ?_
                    refine Runs.rseq ?_
                    refine RO.opv (v' := .d (.bool true)) (opv_move rfl) rfl ?_
                    refine RO.opv (v' := .d (.bool true)) (opv_assign rfl) rfl ?_
                    refine RO.nil ?_
                    refine Runs.ret ?_
                    refine thenQ_ret ?_
                    refine EndQ.tmp (.inr rfl) rfl rfl 0 (by exact Nat.le_refl _) (by exact Nat.zero_le _) trivial ⟨?_, rfl⟩
                    first
                      | rfl
                      | (refine bool_eq ?_; rw [hfu.1, same_refl])
                  · try simp only [decide_eq_true_eq, decide_eq_false_iff_not, beq_iff_eq, beq_eq_false_iff_ne, bne_iff_ne, bne_eq_false_iff_eq, Int.not_lt, Int.not_le, ne_eq, Bool.not_eq_true', Bool.not_eq_false', gt_iff_lt, ge_iff_le] at h9
                    have hf3 : (matchS (C 8) (matchS (C 8) sv [a] [b]).1 [a] [b]).2.2.2 = 0 := h9
                    have hfu := un_full hq8 (sv_sg 8) ga gb his hf1 hf2
                    have hag := un_again hq8 hg1 ga gb hfu.2
                    refine RO.nil ?_
                    refine Runs.condF rfl ?_
                    refine Runs.skip ?_
                    refine thenQ_normal ?_
                    refine Runs.has [(4, .d (.bool false)), (5, .d (.bool true)), (8, .ref 4 0), (12, .ref 5 0), (14, .ref 6 0), (16, .d (.int _ _)), (17, .d (.bool _))] ⟨rfl, rfl, rfl, rfl, rfl, rfl, rfl, trivial⟩ ?_
                    refine Runs.seq ?_
                    refine Runs.drawn (by kernel_rfl) [] [false, false, false, false, false, false, false, false, false, false, false, false, false, false, false, false, false, false] [false, false, false, false, false, false, false, false, false, false, false, false, false, false, false, false, false, false] (by decide +kernel) ?_
                    refine RD.opv (v' := .d (.bool true)) (opv_move rfl) rfl ?_
                    refine RD.opv (v' := .d (.bool true)) (opv_move rfl) rfl ?_
                    refine RD.opgv (v' := .d (.bool _)) rfl (opv_move rfl) rfl ?_
                    refine RD.opv (v' := .d (.bool _)) (opv_pick rfl rfl) rfl ?_
                    refine RD.opc (opv_move rfl) (fun h10 => ?_) (fun h10 => ?_)
                    · try simp only [decide_eq_true_eq, decide_eq_false_iff_not, beq_iff_eq, beq_eq_false_iff_ne, bne_iff_ne, bne_eq_false_iff_eq, Int.not_lt, Int.not_le, ne_eq, Bool.not_eq_true', Bool.not_eq_false', gt_iff_lt, ge_iff_le] at h10
                      refine RD.opgv (v' := .ref 4 0) rfl (opv_move rfl) rfl ?_
                      refine RD.opgq (v' := .d (.int _ _)) rfl (opv_callS 2 3 (mark_fn (matchS (C 8) (matchS (C 8) sv [a] [b]).1 [a] [b]).1) rfl rfl rfl (Nat.le_of_ble_eq_true rfl) rfl (AV.bds_of_B _ rfl)) rfl rfl ?_
                      refine RD.opgv (v' := .d (.int _ _)) rfl (opv_move rfl) rfl ?_
                      refine RD.opgv (v' := .d (.bool _)) rfl (opv_bin rfl rfl rfl) rfl ?_
                      refine RD.opv (v' := .d (.bool _)) (opv_pick rfl rfl) rfl ?_
                      refine RD.opc (opv_move rfl) (fun h11 => ?_) (fun h11 => ?_)
                      · try simp only [decide_eq_true_eq, decide_eq_false_iff_not, beq_iff_eq, beq_eq_false_iff_ne, bne_iff_ne, bne_eq_false_iff_eq, Int.not_lt, Int.not_le, ne_eq, Bool.not_eq_true', Bool.not_eq_false', gt_iff_lt, ge_iff_le] at h11
                        refine RD.opgv (v' := .d (enc _)) rfl (opv_load_term rfl rfl rfl) rfl ?_
                        refine RD.opgv (v' := .d (enc _)) rfl (opv_callF (erase_fn (((matchS (C 8) sv [a] [b]).1).full a).1 (full_bulk hg1.ok.small g1)) rfl rfl rfl trivial) rfl ?_
                        refine RD.opgv (v' := .d (enc _)) rfl (opv_load_term rfl rfl rfl) rfl ?_
                        refine RD.opgv (v' := .d (enc _)) rfl (opv_callF (erase_fn (((matchS (C 8) sv [a] [b]).1).full b).1 (full_bulk hg1.ok.small g2)) rfl rfl rfl trivial) rfl ?_
                        refine RD.opgv (v' := .d (.bool _)) rfl (opv_callF (same_fn (((matchS (C 8) sv [a] [b]).1).full a).1.erase (((matchS (C 8) sv [a] [b]).1).full b).1.erase (Nat.le_trans (erase_bulk _) (full_bulk hg1.ok.small g1)) (Nat.le_trans (erase_bulk _) (full_bulk hg1.ok.small g2))) rfl rfl rfl trivial) rfl ?_
                        refine RD.opv (v' := .d (.bool _)) (opv_pick rfl rfl) rfl ?_
                        refine RD.opv (v' := .d (.bool _)) (opv_assign rfl) rfl ?_
                        refine RD.nil ?_
                        refine thenQ_normal ?_
                        refine Runs.ret ?_
                        refine EndQ.tmp (.inr rfl) rfl rfl 0 (by exact Nat.le_refl _) (by exact Nat.zero_le _) trivial ⟨?_, rfl⟩
                        first
                          | rfl
                          | (refine bool_eq ?_; rw [hfu.1, same_refl])
                      · try simp only [decide_eq_true_eq, decide_eq_false_iff_not, beq_iff_eq, beq_eq_false_iff_ne, bne_iff_ne, bne_eq_false_iff_eq, Int.not_lt, Int.not_le, ne_eq, Bool.not_eq_true', Bool.not_eq_false', gt_iff_lt, ge_iff_le] at h11
                        rw [hag.1] at h11; exact absurd rfl h11
                    · try simp only [decide_eq_true_eq, decide_eq_false_iff_not, beq_iff_eq, beq_eq_false_iff_ne, bne_iff_ne, bne_eq_false_iff_eq, Int.not_lt, Int.not_le, ne_eq, Bool.not_eq_true', Bool.not_eq_false', gt_iff_lt, ge_iff_le] at h10
                      rcases hag.2 with e | e
                      · rw [e] at h10; cases h10
                      · rw [hf3] at e; cases e
        · try simp only [decide_eq_true_eq, decide_eq_false_iff_not, beq_iff_eq, beq_eq_false_iff_ne, bne_iff_ne, bne_eq_false_iff_eq, Int.not_lt, Int.not_le, ne_eq, Bool.not_eq_true', Bool.not_eq_false', gt_iff_lt, ge_iff_le] at h4
          have he := h4
          refine RD.off rfl ?_
          refine RD.opgv (v' := .d (.bool false)) rfl (opv_pick rfl rfl) rfl ?_
          refine RD.opv (v' := .d (.bool false)) (opv_pick rfl rfl) rfl ?_
          refine RD.nil ?_
          refine thenQ_normal ?_
          refine Runs.condF rfl ?_
          refine Runs.skip ?_
          refine thenQ_normal ?_
          refine Runs.has [(2, .ref 0 0), (3, .ref 1 0), (4, .d (.bool false)), (5, .d (.bool true)), (6, .d (encL _)), (8, .ref 4 0), (9, .d (.bool _))] ⟨rfl, rfl, rfl, rfl, rfl, rfl, rfl, trivial⟩ ?_
          refine Runs.seq ?_
          refine Runs.rseq ?_
          refine RO.opv (v' := .d (.bool _)) (opv_move rfl) rfl ?_
          refine RO.opc (opv_not rfl rfl) (fun h12 => ?_) (fun h12 => ?_)
          · try simp only [decide_eq_true_eq, decide_eq_false_iff_not, beq_iff_eq, beq_eq_false_iff_ne, bne_iff_ne, bne_eq_false_iff_eq, Int.not_lt, Int.not_le, ne_eq, Bool.not_eq_true', Bool.not_eq_false', gt_iff_lt, ge_iff_le] at h12
            skip
            refine RO.nil ?_
            refine Runs.condT rfl ?_
            refine Runs.has [(2, .ref 0 0), (3, .ref 1 0), (4, .d (.bool false)), (5, .d (.bool true)), (6, .d (encL _)), (8, .ref 4 0)] ⟨rfl, rfl, rfl, rfl, rfl, rfl, trivial⟩ ?_
            refine Runs.rseq ?_
            refine RO.opv (v' := .d (.bool true)) (opv_move rfl) rfl ?_
            refine RO.opv (v' := .d (.bool true)) (opv_assign rfl) rfl ?_
            refine RO.nil ?_
            refine Runs.ret ?_
            refine thenQ_ret ?_
            refine EndQ.tmp (.inr rfl) rfl rfl 0 (by exact Nat.le_refl _) (by exact Nat.zero_le _) trivial ⟨?_, rfl⟩
            first
              | rfl
              | (refine bool_eq ?_; rw [hfu.1, same_refl])
          · try simp only [decide_eq_true_eq, decide_eq_false_iff_not, beq_iff_eq, beq_eq_false_iff_ne, bne_iff_ne, bne_eq_false_iff_eq, Int.not_lt, Int.not_le, ne_eq, Bool.not_eq_true', Bool.not_eq_false', gt_iff_lt, ge_iff_le] at h12
            have his : (matchS (C 8) sv [a] [b]).2.1 = true := h12
            refine RO.nil ?_
            refine Runs.condF rfl ?_
            refine Runs.skip ?_
            refine thenQ_normal ?_
            refine Runs.has [(2, .ref 0 0), (3, .ref 1 0), (4, .d (.bool false)), (5, .d (.bool true)), (6, .d (encL _)), (8, .ref 4 0)] ⟨rfl, rfl, rfl, rfl, rfl, rfl, trivial⟩ ?_
            refine Runs.rseq ?_
            refine RO.opv (v' := .ref 4 0) (opv_move rfl) rfl ?_
            refine RO.opv (v' := .d (enc _)) (opv_load_term rfl rfl rfl) rfl ?_
            refine RO.opn (O' := [_, _, _, _, _]) (opv_callS 2 3 (full_fn (matchS (C 8) sv [a] [b]).1 a (hg1.ok.small' (Nat.le_of_ble_eq_true rfl)) hg1.ok.ends (Nat.le_trans g1 (Nat.le_of_ble_eq_true rfl))) rfl rfl rfl (Nat.le_of_ble_eq_true rfl) rfl (AV.bds_of_B _ rfl)) rfl rfl ?_
            refine RO.opv (opv_move rfl) rfl ?_
            refine RO.opv (v' := .d (enc _)) (opv_extract rfl rfl) rfl ?_
            refine RO.opv (v' := .d (.int _ _)) (opv_extract rfl rfl) rfl ?_
            refine RO.opn (v' := .ref 5 0) (O' := [_, _, _, _, _, _]) (opv_alloc) rfl rfl ?_
            refine RO.op0n (O' := [_, _, _, _, _, _]) (opv_store_term rfl rfl rfl (Nat.le_of_ble_eq_true rfl)) rfl ?_
            refine RO.opv (v' := .d (.int _ _)) (opv_assign rfl) rfl ?_
            refine RO.nil ?_
            refine Runs.has [(2, .ref 0 0), (3, .ref 1 0), (4, .d (.bool false)), (5, .d (.bool true)), (6, .d (encL _)), (8, .ref 4 0), (12, .ref 5 0), (13, .d (.int _ _))] ⟨rfl, rfl, rfl, rfl, rfl, rfl, rfl, rfl, trivial⟩ ?_
            refine Runs.rseq ?_
            refine RO.opv (v' := .ref 4 0) (opv_move rfl) rfl ?_
            refine RO.opv (v' := .d (enc _)) (opv_load_term rfl rfl rfl) rfl ?_
            refine RO.opn (O' := [_, _, _, _, _, _]) (opv_callS 2 3 (full_fn (matchS (C 8) sv [a] [b]).1 b (hg1.ok.small' (Nat.le_of_ble_eq_true rfl)) hg1.ok.ends (Nat.le_trans g2 (Nat.le_of_ble_eq_true rfl))) rfl rfl rfl (Nat.le_of_ble_eq_true rfl) rfl (AV.bds_of_B _ rfl)) rfl rfl ?_
            refine RO.opv (opv_move rfl) rfl ?_
            refine RO.opv (v' := .d (enc _)) (opv_extract rfl rfl) rfl ?_
            refine RO.opv (v' := .d (.int _ _)) (opv_extract rfl rfl) rfl ?_
            refine RO.opn (v' := .ref 6 0) (O' := [_, _, _, _, _, _, _]) (opv_alloc) rfl rfl ?_
            refine RO.op0n (O' := [_, _, _, _, _, _, _]) (opv_store_term rfl rfl rfl (Nat.le_of_ble_eq_true rfl)) rfl ?_
            refine RO.opv (v' := .d (.int _ _)) (opv_assign rfl) rfl ?_
            refine RO.nil ?_
            refine Runs.has [(2, .ref 0 0), (3, .ref 1 0), (4, .d (.bool false)), (5, .d (.bool true)), (6, .d (encL _)), (8, .ref 4 0), (12, .ref 5 0), (13, .d (.int _ _)), (14, .ref 6 0), (15, .d (.int _ _))] ⟨rfl, rfl, rfl, rfl, rfl, rfl, rfl, rfl, rfl, rfl, trivial⟩ ?_
            refine Runs.rseq ?_
            refine RO.opv (v' := .ref 4 0) (opv_move rfl) rfl ?_
            refine RO.opn (v' := .d (.int _ _)) (O' := [_, _, _, _, _, _, _]) (opv_callS 2 3 (mark_fn (matchS (C 8) sv [a] [b]).1) rfl rfl rfl (Nat.le_of_ble_eq_true rfl) rfl (AV.bds_of_B _ rfl)) rfl rfl ?_
            refine RO.opv (v' := .d (.int _ _)) (opv_assign rfl) rfl ?_
            refine RO.nil ?_
            refine Runs.has [(2, .ref 0 0), (3, .ref 1 0), (4, .d (.bool false)), (5, .d (.bool true)), (6, .d (encL _)), (8, .ref 4 0), (12, .ref 5 0), (13, .d (.int _ _)), (14, .ref 6 0), (15, .d (.int _ _)), (16, .d (.int _ _))] ⟨rfl, rfl, rfl, rfl, rfl, rfl, rfl, rfl, rfl, rfl, rfl, trivial⟩ ?_
            refine Runs.rseq ?_
            refine RO.opv (v' := .ref 4 0) (opv_move rfl) rfl ?_
            refine RO.opv (v' := .d (encL _)) (opv_move rfl) rfl ?_
            refine RO.opv (v' := .d (enc _)) (opv_load_term rfl rfl rfl) rfl ?_
            refine RO.opv (v' := .d (enc _)) (opv_load_term rfl rfl rfl) rfl ?_
            refine RO.opn (O' := [_, _, _, _, _, _, _]) (opv_callS 2 3 (unify_fn 8 (by decide) (matchS (C 8) sv [a] [b]).1 hg1 a b ga gb) rfl rfl rfl (Nat.le_of_ble_eq_true rfl) rfl (AV.bds_of_B _ rfl)) rfl rfl ?_
            refine RO.opv (opv_move rfl) rfl ?_
            refine RO.opv (v' := .d (.bool _)) (opv_extract rfl rfl) rfl ?_
            refine RO.opv (v' := .d (.int _ _)) (opv_extract rfl rfl) rfl ?_
            refine RO.opv (v' := .d (.int _ _)) (opv_extract rfl rfl) rfl ?_
            refine RO.opv (v' := .d (.bool _)) (opv_assign rfl) rfl ?_
            refine RO.opv (v' := .d (.int _ _)) (opv_assign rfl) rfl ?_
            refine RO.opv (v' := .d (.int _ _)) (opv_assign rfl) rfl ?_
            refine RO.nil ?_
            refine Runs.has [(4, .d (.bool false)), (5, .d (.bool true)), (8, .ref 4 0), (12, .ref 5 0), (13, .d (.int _ _)), (14, .ref 6 0), (15, .d (.int _ _)), (16, .d (.int _ _)), (17, .d (.bool _)), (19, .d (.int _ _))] ⟨rfl, rfl, rfl, rfl, rfl, rfl, rfl, rfl, rfl, rfl, trivial⟩ ?_
            refine Runs.seq ?_
            refine Runs.rseq ?_
            refine RO.opv (v' := .d (.int _ _)) (opv_move rfl) rfl ?_
            refine RO.opv (v' := .d (.bool _)) (opv_bin rfl rfl rfl) rfl ?_
            refine RO.opc (opv_move rfl) (fun h13 => ?_) (fun h13 => ?_)
            · try simp only [decide_eq_true_eq, decide_eq_false_iff_not, beq_iff_eq, beq_eq_false_iff_ne, bne_iff_ne, bne_eq_false_iff_eq, Int.not_lt, Int.not_le, ne_eq, Bool.not_eq_true', Bool.not_eq_false', gt_iff_lt, ge_iff_le] at h13
              have hf1 := h13
              refine RO.off rfl ?_
              refine RO.off rfl ?_
              refine RO.opv (v' := .d (.bool true)) (opv_pick rfl rfl) rfl ?_
              refine RO.opv (v' := .d (.bool true)) (opv_move rfl) rfl ?_
              refine RO.off rfl ?_
              refine RO.off rfl ?_
              refine RO.opv (v' := .d (.bool true)) (opv_pick rfl rfl) rfl ?_
              refine RO.nil ?_
              refine Runs.condT rfl ?_
              refine Runs.has [(4, .d (.bool false)), (5, .d (.bool true)), (8, .ref 4 0), (12, .ref 5 0), (14, .ref 6 0), (16, .d (.int _ _)), (17, .d (.bool _))] ⟨rfl, rfl, rfl, rfl, rfl, rfl, rfl, trivial⟩ ?_
              refine Runs.rseq ?_
              refine RO.opv (v' := .d (.bool true)) (opv_move rfl) rfl ?_
              refine RO.opv (v' := .d (.bool true)) (opv_assign rfl) rfl ?_
              refine RO.nil ?_
              refine Runs.ret ?_
              refine thenQ_ret ?_
              refine EndQ.tmp (.inr rfl) rfl rfl 0 (by exact Nat.le_refl _) (by exact Nat.zero_le _) trivial ⟨?_, rfl⟩
              first
                | rfl
                | (refine bool_eq ?_; rw [hfu.1, same_refl])
            · try simp only [decide_eq_true_eq, decide_eq_false_iff_not, beq_iff_eq, beq_eq_false_iff_ne, bne_iff_ne, bne_eq_false_iff_eq, Int.not_lt, Int.not_le, ne_eq, Bool.not_eq_true', Bool.not_eq_false', gt_iff_lt, ge_iff_le] at h13
              have hf1 := h13
              refine RO.opgv (v' := .d (.int _ _)) rfl (opv_move rfl) rfl ?_
              refine RO.opgv (v' := .d (.bool _)) rfl (opv_bin rfl rfl rfl) rfl ?_
              refine RO.opv (v' := .d (.bool _)) (opv_pick rfl rfl) rfl ?_
              refine RO.opc (opv_move rfl) (fun h14 => ?_) (fun h14 => ?_)
              · try simp only [decide_eq_true_eq, decide_eq_false_iff_not, beq_iff_eq, beq_eq_false_iff_ne, bne_iff_ne, bne_eq_false_iff_eq, Int.not_lt, Int.not_le, ne_eq, Bool.not_eq_true', Bool.not_eq_false', gt_iff_lt, ge_iff_le] at h14
                have hf2 := h14
                refine RO.off rfl ?_
                refine RO.off rfl ?_
                refine RO.opv (v' := .d (.bool true)) (opv_pick rfl rfl) rfl ?_
                refine RO.nil ?_
                refine Runs.condT rfl ?_
                refine Runs.has [(4, .d (.bool false)), (5, .d (.bool true)), (8, .ref 4 0), (12, .ref 5 0), (14, .ref 6 0), (16, .d (.int _ _)), (17, .d (.bool _))] ⟨rfl, rfl, rfl, rfl, rfl, rfl, rfl, trivial⟩ ?_
                refine Runs.rseq ?_
                refine RO.opv (v' := .d (.bool true)) (opv_move rfl) rfl ?_
                refine RO.opv (v' := .d (.bool true)) (opv_assign rfl) rfl ?_
                refine RO.nil ?_
                refine Runs.ret ?_
                refine thenQ_ret ?_
                refine EndQ.tmp (.inr rfl) rfl rfl 0 (by exact Nat.le_refl _) (by exact Nat.zero_le _) trivial ⟨?_, rfl⟩
                first
                  | rfl
                  | (refine bool_eq ?_; rw [hfu.1, same_refl])
              · try simp only [decide_eq_true_eq, decide_eq_false_iff_not, beq_iff_eq, beq_eq_false_iff_ne, bne_iff_ne, bne_eq_false_iff_eq, Int.not_lt, Int.not_le, ne_eq, Bool.not_eq_true', Bool.not_eq_false', gt_iff_lt, ge_iff_le] at h14
                have hf2 := h14
                refine RO.opgv (v' := .d (.int _ _)) rfl (opv_move rfl) rfl ?_
                refine RO.opgv (v' := .d (.bool _)) rfl (opv_bin rfl rfl rfl) rfl ?_
                refine RO.opc (opv_pick rfl rfl) (fun h15 => ?_) (fun h15 => ?_)
                · try simp only [decide_eq_true_eq, decide_eq_false_iff_not, beq_iff_eq, beq_eq_false_iff_ne, bne_iff_ne, bne_eq_false_iff_eq, Int.not_lt, Int.not_le, ne_eq, Bool.not_eq_true', Bool.not_eq_false', gt_iff_lt, ge_iff_le] at h15
                  skip
                  refine RO.nil ?_
                  refine Runs.condT rfl ?_
                  refine Runs.has [(4, .d (.bool false)), (5, .d (.bool true)), (8, .ref 4 0), (12, .ref 5 0), (14, .ref 6 0), (16, .d (.int _ _)), (17, .d (.bool _))] ⟨rfl, rfl, rfl, rfl, rfl, rfl, rfl, trivial⟩ ?_
                  refine Runs.rseq ?_
                  refine RO.opv (v' := .d (.bool true)) (opv_move rfl) rfl ?_
                  refine RO.opv (v' := .d (.bool true)) (opv_assign rfl) rfl ?_
                  refine RO.nil ?_
                  refine Runs.ret ?_
                  refine thenQ_ret ?_
                  refine EndQ.tmp (.inr rfl) rfl rfl 0 (by exact Nat.le_refl _) (by exact Nat.zero_le _) trivial ⟨?_, rfl⟩
                  first
                    | rfl
                    | (refine bool_eq ?_; rw [hfu.1, same_refl])
                · try simp only [decide_eq_true_eq, decide_eq_false_iff_not, beq_iff_eq, beq_eq_false_iff_ne, bne_iff_ne, bne_eq_false_iff_eq, Int.not_lt, Int.not_le, ne_eq, Bool.not_eq_true', Bool.not_eq_false', gt_iff_lt, ge_iff_le] at h15
                  have hf3 : (matchS (C 8) (matchS (C 8) sv [a] [b]).1 [a] [b]).2.2.2 = 0 := h15
                  have hfu := un_full hq8 (sv_sg 8) ga gb his hf1 hf2
                  have hag := un_again hq8 hg1 ga gb hfu.2
                  refine RO.nil ?_
                  refine Runs.condF rfl ?_
                  refine Runs.skip ?_
                  refine thenQ_normal ?_
                  refine Runs.has [(4, .d (.bool false)), (5, .d (.bool true)), (8, .ref 4 0), (12, .ref 5 0), (14, .ref 6 0), (16, .d (.int _ _)), (17, .d (.bool _))] ⟨rfl, rfl, rfl, rfl, rfl, rfl, rfl, trivial⟩ ?_
                  refine Runs.seq ?_
                  refine Runs.drawn (by kernel_rfl) [] [false, false, false, false, false, false, false, false, false, false, false, false, false, false, false, false, false, false] [false, false, false, false, false, false, false, false, false, false, false, false, false, false, false, false, false, false] (by decide +kernel) ?_
                  refine RD.opv (v' := .d (.bool true)) (opv_move rfl) rfl ?_
                  refine RD.opv (v' := .d (.bool true)) (opv_move rfl) rfl ?_
                  refine RD.opgv (v' := .d (.bool _)) rfl (opv_move rfl) rfl ?_
                  refine RD.opv (v' := .d (.bool _)) (opv_pick rfl rfl) rfl ?_
                  refine RD.opc (opv_move rfl) (fun h16 => ?_) (fun h16 => ?_)
                  · try simp only [decide_eq_true_eq, decide_eq_false_iff_not, beq_iff_eq, beq_eq_false_iff_ne, bne_iff_ne, bne_eq_false_iff_eq, Int.not_lt, Int.not_le, ne_eq, Bool.not_eq_true', Bool.not_eq_false', gt_iff_lt, ge_iff_le] at h16
                    refine RD.opgv (v' := .ref 4 0) rfl (opv_move rfl) rfl ?_
                    refine RD.opgq (v' := .d (.int _ _)) rfl (opv_callS 2 3 (mark_fn (matchS (C 8) (matchS (C 8) sv [a] [b]).1 [a] [b]).1) rfl rfl rfl (Nat.le_of_ble_eq_true rfl) rfl (AV.bds_of_B _ rfl)) rfl rfl ?_
                    refine RD.opgv (v' := .d (.int _ _)) rfl (opv_move rfl) rfl ?_
                    refine RD.opgv (v' := .d (.bool _)) rfl (opv_bin rfl rfl rfl) rfl ?_
                    refine RD.opv (v' := .d (.bool _)) (opv_pick rfl rfl) rfl ?_
                    refine RD.opc (opv_move rfl) (fun h17 => ?_) (fun h17 => ?_)
                    · try simp only [decide_eq_true_eq, decide_eq_false_iff_not, beq_iff_eq, beq_eq_false_iff_ne, bne_iff_ne, bne_eq_false_iff_eq, Int.not_lt, Int.not_le, ne_eq, Bool.not_eq_true', Bool.not_eq_false', gt_iff_lt, ge_iff_le] at h17
                      refine RD.opgv (v' := .d (enc _)) rfl (opv_load_term rfl rfl rfl) rfl ?_
                      refine RD.opgv (v' := .d (enc _)) rfl (opv_callF (erase_fn (((matchS (C 8) sv [a] [b]).1).full a).1 (full_bulk hg1.ok.small g1)) rfl rfl rfl trivial) rfl ?_
                      refine RD.opgv (v' := .d (enc _)) rfl (opv_load_term rfl rfl rfl) rfl ?_
                      refine RD.opgv (v' := .d (enc _)) rfl (opv_callF (erase_fn (((matchS (C 8) sv [a] [b]).1).full b).1 (full_bulk hg1.ok.small g2)) rfl rfl rfl trivial) rfl ?_
                      refine RD.opgv (v' := .d (.bool _)) rfl (opv_callF (same_fn (((matchS (C 8) sv [a] [b]).1).full a).1.erase (((matchS (C 8) sv [a] [b]).1).full b).1.erase (Nat.le_trans (erase_bulk _) (full_bulk hg1.ok.small g1)) (Nat.le_trans (erase_bulk _) (full_bulk hg1.ok.small g2))) rfl rfl rfl trivial) rfl ?_
                      refine RD.opv (v' := .d (.bool _)) (opv_pick rfl rfl) rfl ?_
                      refine RD.opv (v' := .d (.bool _)) (opv_assign rfl) rfl ?_
                      refine RD.nil ?_
                      refine thenQ_normal ?_
                      refine Runs.ret ?_
                      refine EndQ.tmp (.inr rfl) rfl rfl 0 (by exact Nat.le_refl _) (by exact Nat.zero_le _) trivial ⟨?_, rfl⟩
                      first
                        | rfl
                        | (refine bool_eq ?_; rw [hfu.1, same_refl])
                    · try simp only [decide_eq_true_eq, decide_eq_false_iff_not, beq_iff_eq, beq_eq_false_iff_ne, bne_iff_ne, bne_eq_false_iff_eq, Int.not_lt, Int.not_le, ne_eq, Bool.not_eq_true', Bool.not_eq_false', gt_iff_lt, ge_iff_le] at h17
                      rw [hag.1] at h17; exact absurd rfl h17
                  · try simp only [decide_eq_true_eq, decide_eq_false_iff_not, beq_iff_eq, beq_eq_false_iff_ne, bne_iff_ne, bne_eq_false_iff_eq, Int.not_lt, Int.not_le, ne_eq, Bool.not_eq_true', Bool.not_eq_false', gt_iff_lt, ge_iff_le] at h16
                    rcases hag.2 with e | e
                    · rw [e] at h16; cases h16
                    · rw [hf3] at e; cases e
end Go.Proofs.Ytegfpnpghfcopaa.AM
