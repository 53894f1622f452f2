import Derived.Test.YtegfpnpghfcopaaL0
namespace Go.Proofs.Ytegfpnpghfcopaa.AM
open Go
set_option linter.unusedVariables false
set_option linter.unusedSimpArgs false
theorem unifyVars_fn (v : Int) (t : Term) (g0 : 0 ≤ v) (g0' : v ≤ 255) (g1 : t.bulk ≤ 2 ^ 20) (_g1' : t.fits) : Fn Try.prog 4 [.d (.int .u8 v), .d (enc t)] [] (.d (.bool true)) [] := by
  have hq8 : 8 < 16 := by decide
  obtain ⟨j, hj⟩ : ∃ j : Int, v.tmod 12 = j := ⟨_, rfl⟩
  have hj1 : 0 ≤ j ∧ j < 12 := by rw [Int.tmod_eq_emod_of_nonneg g0] at hj; omega
  have glj := lets_gd (k := 8) hj1.1 hj1.2
  refine Does.run Try.func4 rfl Try.ntmps4 rfl fun K hK => ?_
  refine Runs.rseq ?_
  refine RO.opn (v' := .ref 0 0) (O' := [_]) (opv_box_term rfl) rfl rfl ?_
  refine RO.opv (v' := .d (.bool false)) (opv_assign rfl) rfl ?_
  refine RO.nil ?_
  refine Runs.has [(0, .d (.int _ _)), (3, .ref 0 0), (4, .d (.bool false))] ⟨rfl, rfl, rfl, trivial⟩ ?_
  refine Runs.rseq ?_
  refine RO.opv (v' := .d (.bool true)) (opv_callF (shown_fn) rfl rfl rfl trivial) rfl ?_
  refine RO.opv (v' := .d (.bool true)) (opv_assign rfl) rfl ?_
  refine RO.nil ?_
  refine Runs.has [(0, .d (.int _ _)), (3, .ref 0 0), (4, .d (.bool false)), (5, .d (.bool true))] ⟨rfl, rfl, rfl, rfl, trivial⟩ ?_
  refine Runs.rseq ?_
  refine RO.opv (v' := .d (.list (encPs _))) (opv_callF (chainp_fn 8 (by decide)) rfl rfl rfl trivial) rfl ?_
  refine RO.opv (opv_callF (lnewC_fn 8 (by decide)) rfl rfl rfl ⟨trivial, trivial, trivial⟩) rfl ?_
  refine RO.opv (opv_move rfl) rfl ?_
  refine RO.opv (v' := .d (encL _)) (opv_extract rfl rfl) rfl ?_
  refine RO.opv (v' := .d (.int _ _)) (opv_extract rfl rfl) rfl ?_
  refine RO.opv (v' := .d (encL _)) (opv_assign rfl) rfl ?_
  refine RO.opv (v' := .d (.int _ _)) (opv_assign rfl) rfl ?_
  refine RO.nil ?_
  refine Runs.has [(0, .d (.int _ _)), (3, .ref 0 0), (4, .d (.bool false)), (5, .d (.bool true)), (6, .d (encL _))] ⟨rfl, rfl, rfl, rfl, rfl, trivial⟩ ?_
  refine Runs.rseq ?_
  refine RO.opn (v' := .ref 3 0) (O' := [_, _, _, _]) (opv_callN 1 (svars_fn) rfl rfl rfl) rfl rfl ?_
  refine RO.opv (v' := .ref 3 0) (opv_assign rfl) rfl ?_
  refine RO.nil ?_
  refine Runs.has [(0, .d (.int _ _)), (3, .ref 0 0), (4, .d (.bool false)), (5, .d (.bool true)), (6, .d (encL _)), (8, .ref 3 0)] ⟨rfl, rfl, rfl, rfl, rfl, rfl, trivial⟩ ?_
  refine Runs.seq ?_
  refine Runs.rseq ?_
  refine RO.opv (v' := .d (encL _)) (opv_move rfl) rfl ?_
  refine RO.opv (v' := .d (.bool false)) (opv_eqnil rfl rfl rfl) rfl ?_
  refine RO.opv (v' := .d (.bool false)) (opv_move rfl) rfl ?_
  refine RO.opgv (v' := .ref 3 0) rfl (opv_move rfl) rfl ?_
  refine RO.opgv (v' := .d (.bool false)) rfl (opv_eqnil_ref rfl rfl rfl) rfl ?_
  refine RO.opv (v' := .d (.bool false)) (opv_pick rfl rfl) rfl ?_
  refine RO.opv (v' := .d (.bool false)) (opv_move rfl) rfl ?_
  refine RO.opgv (v' := .d (enc _)) rfl (opv_load_term rfl rfl rfl) rfl ?_
  refine RO.opgv (v' := .d (.bool _)) rfl (opv_callF (may_fn t g1) rfl rfl rfl trivial) rfl ?_
  refine RO.opgv (v' := .d (.bool _)) rfl (opv_not rfl rfl) rfl ?_
  refine RO.opc (opv_pick rfl rfl) (fun h1 => ?_) (fun h1 => ?_)
  · try simp only [decide_eq_true_eq, decide_eq_false_iff_not, beq_iff_eq, beq_eq_false_iff_ne, bne_iff_ne, bne_eq_false_iff_eq, Int.not_lt, Int.not_le, ne_eq, Bool.not_eq_true', Bool.not_eq_false', gt_iff_lt, ge_iff_le] at h1
    skip
    refine RO.nil ?_
    refine Runs.condT rfl ?_
    refine Runs.has [(0, .d (.int _ _)), (3, .ref 0 0), (4, .d (.bool false)), (5, .d (.bool true)), (6, .d (encL _)), (8, .ref 3 0)] ⟨rfl, rfl, rfl, rfl, rfl, rfl, trivial⟩ ?_
    refine Runs.rseq ?_
    refine RO.opv (v' := .d (.bool true)) (opv_move rfl) rfl ?_
    refine RO.opv (v' := .d (.bool true)) (opv_move rfl) rfl ?_
    refine RO.opgv (v' := .d (encL _)) rfl (opv_move rfl) rfl ?_
    refine RO.opgv (v' := .d (.bool true)) rfl (opv_nenil rfl rfl rfl) rfl ?_
    refine RO.opv (v' := .d (.bool true)) (opv_pick rfl rfl) rfl ?_
    refine RO.opv (v' := .d (.bool true)) (opv_move rfl) rfl ?_
    refine RO.opgv (v' := .ref 3 0) rfl (opv_move rfl) rfl ?_
    refine RO.opgv (v' := .d (.bool true)) rfl (opv_nenil_ref rfl rfl rfl) rfl ?_
    refine RO.opv (v' := .d (.bool true)) (opv_pick rfl rfl) rfl ?_
    refine RO.opv (v' := .d (.bool true)) (opv_assign rfl) rfl ?_
    refine RO.nil ?_
    refine Runs.ret ?_
    refine thenQ_ret ?_
    refine EndQ.tmp (.inr rfl) rfl rfl 0 (by exact Nat.le_refl _) (by exact Nat.zero_le _) trivial ⟨?_, rfl⟩
    first
      | rfl
      | (have hh : sv.has j t = false := by
           cases hh : sv.has j t with
           | true => rw [hun, if_neg hcn, if_pos hh] at hisT; cases hisT
           | false => rfl
         refine bool_eq ?_
         rw [hun, if_neg hcn, if_neg (by rw [hh]; exact Bool.false_ne_true), bind_mark hj1.1 hj1.2 hh]
         rfl)
  · try simp only [decide_eq_true_eq, decide_eq_false_iff_not, beq_iff_eq, beq_eq_false_iff_ne, bne_iff_ne, bne_eq_false_iff_eq, Int.not_lt, Int.not_le, ne_eq, Bool.not_eq_true', Bool.not_eq_false', gt_iff_lt, ge_iff_le] at h1
    have gt := may_gd h1 g1
    have hun := un_var hq8 hj1.1 hj1.2 gt
    have hE : (matchS (C 8) sv [lets j] [t]).2.2.2 = 0 ∧ (matchS (C 8) sv [lets j] [t]).2.2.1 = 0 := by rw [hun]; split <;> (try split) <;> exact ⟨rfl, rfl⟩
    refine RO.nil ?_
    refine Runs.condF rfl ?_
    refine Runs.skip ?_
    refine thenQ_normal ?_
    refine Runs.has [(0, .d (.int _ _)), (3, .ref 0 0), (4, .d (.bool false)), (5, .d (.bool true)), (6, .d (encL _)), (8, .ref 3 0)] ⟨rfl, rfl, rfl, rfl, rfl, rfl, trivial⟩ ?_
    refine Runs.rseq ?_
    refine RO.opv (v' := .d (.int _ _)) (opv_move rfl) rfl ?_
    refine RO.opv (v' := .d (.int _ _)) (opv_arith (r := j) rfl rfl (by simp only [binD, if_true]; rw [if_neg (by decide), hj])) rfl ?_
    refine RO.opv (v' := .d (.int _ _)) (opv_conv (r := j) rfl (wrap64 (by omega) (by omega))) rfl ?_
    refine RO.opv (v' := .d (.int _ _)) (opv_assign rfl) rfl ?_
    refine RO.nil ?_
    refine Runs.has [(3, .ref 0 0), (4, .d (.bool false)), (5, .d (.bool true)), (6, .d (encL _)), (8, .ref 3 0), (9, .d (.int _ _))] ⟨rfl, rfl, rfl, rfl, rfl, rfl, trivial⟩ ?_
    refine Runs.rseq ?_
    refine RO.opv (v' := .ref 0 0) (opv_field_ref rfl rfl) rfl ?_
    refine RO.opv (v' := .d (.int _ _)) (opv_load_ref rfl rfl rfl) rfl ?_
    refine RO.opv (v' := .d (.bool _)) (opv_bin rfl rfl rfl) rfl ?_
    refine RO.opc (opv_move rfl) (fun h2 => ?_) (fun h2 => ?_)
    · try simp only [decide_eq_true_eq, decide_eq_false_iff_not, beq_iff_eq, beq_eq_false_iff_ne, bne_iff_ne, bne_eq_false_iff_eq, Int.not_lt, Int.not_le, ne_eq, Bool.not_eq_true', Bool.not_eq_false', gt_iff_lt, ge_iff_le] at h2
      have hk1 : t.kind = 1 := h2
      refine RO.opgv (v' := .ref 0 1) rfl (opv_field_ref rfl rfl) rfl ?_
      refine RO.opgv (v' := .d (.int _ _)) rfl (opv_load_ref rfl rfl rfl) rfl ?_
      refine RO.opgv (v' := .d (.int _ _)) rfl (opv_move rfl) rfl ?_
      refine RO.opgv (v' := .d (.bool _)) rfl (opv_bin rfl rfl rfl) rfl ?_
      refine RO.opv (v' := .d (.bool _)) (opv_pick rfl rfl) rfl ?_
      refine RO.opv (v' := .d (.bool _)) (opv_assign rfl) rfl ?_
      refine RO.nil ?_
      refine Runs.has [(3, .ref 0 0), (4, .d (.bool false)), (5, .d (.bool true)), (6, .d (encL _)), (8, .ref 3 0), (9, .d (.int _ _)), (10, .d (.bool _))] ⟨rfl, rfl, rfl, rfl, rfl, rfl, rfl, trivial⟩ ?_
      refine Runs.rseq ?_
      refine RO.opv (v' := .ref 3 0) (opv_move rfl) rfl ?_
      refine RO.opv (v' := .d (enc _)) (opv_load_term rfl rfl rfl) rfl ?_
      refine RO.opv (v' := .d (.int _ _)) (opv_move rfl) rfl ?_
      refine RO.opn (v' := .d (.bool _)) (O' := [_, _, _, _]) (opv_callS 1 3 (has_store_fn sv t j (sv_ok.small' (Nat.le_of_ble_eq_true rfl)) (by omega)) rfl rfl rfl (Nat.le_of_ble_eq_true rfl) rfl (AV.bds_of_B _ rfl)) rfl rfl ?_
      refine RO.opv (v' := .d (.bool _)) (opv_assign rfl) rfl ?_
      refine RO.nil ?_
      refine Runs.has [(3, .ref 0 0), (4, .d (.bool false)), (5, .d (.bool true)), (6, .d (encL _)), (8, .ref 3 0), (9, .d (.int _ _)), (10, .d (.bool _)), (11, .d (.bool _))] ⟨rfl, rfl, rfl, rfl, rfl, rfl, rfl, rfl, trivial⟩ ?_
      refine Runs.seq ?_
      refine Runs.drawn (by kernel_rfl) [] [false, false, false, false, false, false, false, false, false, false, false, false, false] [false, false, false, false, false, true, false, false, false, false, false, false, false] (by decide +kernel) ?_
      refine RD.opv (v' := .ref 3 0) (opv_move rfl) rfl ?_
      refine RD.opv (v' := .d (encL _)) (opv_move rfl) rfl ?_
      refine RD.opv (v' := .d (.int _ _)) (opv_move rfl) rfl ?_
      refine RD.opv (v' := .d (enc _)) (opv_callF (let_fn j) rfl rfl rfl trivial) rfl ?_
      refine RD.opv (v' := .d (enc _)) (opv_load_term rfl rfl rfl) rfl ?_
      refine RD.opn (O' := [_, _, _, _]) (opv_callS 1 3 (unify_fn 8 (by decide) sv (sv_sg 8) (lets j) t glj gt) rfl rfl rfl (Nat.le_of_ble_eq_true rfl) rfl (AV.bds_of_B _ rfl)) rfl rfl trivial ?_
      refine RD.opv (opv_move rfl) rfl ?_
      refine RD.opv (v' := .d (.bool _)) (opv_extract rfl rfl) rfl ?_
      refine RD.opv (v' := .d (.int _ _)) (opv_extract rfl rfl) rfl ?_
      refine RD.opv (v' := .d (.int _ _)) (opv_extract rfl rfl) rfl ?_
      refine RD.opv (v' := .d (.bool _)) (opv_assign rfl) rfl ?_
      refine RD.opv (v' := .d (.int _ _)) (opv_assign rfl) rfl ?_
      refine RD.opv (v' := .d (.int _ _)) (opv_assign rfl) rfl ?_
      refine RD.nil ?_
      refine thenQ_normal ?_
      refine Runs.has [(4, .d (.bool false)), (5, .d (.bool true)), (6, .d (encL _)), (8, .ref 3 0), (10, .d (.bool _)), (11, .d (.bool _)), (12, .d (.bool _)), (13, .d (.int _ _)), (14, .d (.int _ _))] ⟨rfl, rfl, rfl, rfl, rfl, rfl, rfl, rfl, rfl, trivial⟩ ?_
      refine Runs.rseq ?_
      refine RO.opv (v' := .d (.bool true)) (opv_move rfl) rfl ?_
      refine RO.opv (v' := .d (.bool true)) (opv_move rfl) rfl ?_
      refine RO.opgv (v' := .d (.int _ _)) rfl (opv_move rfl) rfl ?_
      refine RO.opgv (v' := .d (.bool _)) rfl (opv_bin rfl rfl rfl) rfl ?_
      refine RO.opv (v' := .d (.bool _)) (opv_pick rfl rfl) rfl ?_
      refine RO.opc (opv_move rfl) (fun h3 => ?_) (fun h3 => ?_)
      · try simp only [decide_eq_true_eq, decide_eq_false_iff_not, beq_iff_eq, beq_eq_false_iff_ne, bne_iff_ne, bne_eq_false_iff_eq, Int.not_lt, Int.not_le, ne_eq, Bool.not_eq_true', Bool.not_eq_false', gt_iff_lt, ge_iff_le] at h3
        refine RO.opgv (v' := .d (.int _ _)) rfl (opv_move rfl) rfl ?_
        refine RO.opgv (v' := .d (encL _)) rfl (opv_move rfl) rfl ?_
        refine RO.opgv (v' := .d (.int _ _)) rfl (opv_callF (lbot_fn (C 8) (C_ok (by decide))) rfl rfl rfl trivial) rfl ?_
        refine RO.opgv (v' := .d (.bool _)) rfl (opv_bin rfl rfl rfl) rfl ?_
        refine RO.opv (v' := .d (.bool _)) (opv_pick rfl rfl) rfl ?_
        refine RO.opc (opv_move rfl) (fun h4 => ?_) (fun h4 => ?_)
        · try simp only [decide_eq_true_eq, decide_eq_false_iff_not, beq_iff_eq, beq_eq_false_iff_ne, bne_iff_ne, bne_eq_false_iff_eq, Int.not_lt, Int.not_le, ne_eq, Bool.not_eq_true', Bool.not_eq_false', gt_iff_lt, ge_iff_le] at h4
          refine RO.opgv (v' := .d (.bool _)) rfl (opv_move rfl) rfl ?_
          refine RO.opgv (v' := .d (.bool _)) rfl (opv_move rfl) rfl ?_
          refine RO.opgc rfl (opv_move rfl) (fun h5 => ?_) (fun h5 => ?_)
          · try simp only [decide_eq_true_eq, decide_eq_false_iff_not, beq_iff_eq, beq_eq_false_iff_ne, bne_iff_ne, bne_eq_false_iff_eq, Int.not_lt, Int.not_le, ne_eq, Bool.not_eq_true', Bool.not_eq_false', gt_iff_lt, ge_iff_le] at h5
            have hun2 : (matchS (C 8) sv [lets j] [t]) = (sv, true, 0, 0) := by rw [hun, if_pos ⟨hk1, h5⟩]
            refine RO.off rfl ?_
            refine RO.off rfl ?_
            refine RO.opgv (v' := .d (.bool true)) rfl (opv_pick rfl rfl) rfl ?_
            refine RO.opgv (v' := .d (.bool _)) rfl (opv_bool rfl rfl rfl) rfl ?_
            refine RO.opv (v' := .d (.bool _)) (opv_pick rfl rfl) rfl ?_
            refine RO.opc (opv_move rfl) (fun h6 => ?_) (fun h6 => ?_)
            · try simp only [decide_eq_true_eq, decide_eq_false_iff_not, beq_iff_eq, beq_eq_false_iff_ne, bne_iff_ne, bne_eq_false_iff_eq, Int.not_lt, Int.not_le, ne_eq, Bool.not_eq_true', Bool.not_eq_false', gt_iff_lt, ge_iff_le] at h6
              refine RO.opgv (v' := .d (.bool _)) rfl (opv_move rfl) rfl ?_
              refine RO.opgc rfl (opv_move rfl) (fun h7 => ?_) (fun h7 => ?_)
              · try simp only [decide_eq_true_eq, decide_eq_false_iff_not, beq_iff_eq, beq_eq_false_iff_ne, bne_iff_ne, bne_eq_false_iff_eq, Int.not_lt, Int.not_le, ne_eq, Bool.not_eq_true', Bool.not_eq_false', gt_iff_lt, ge_iff_le] at h7
                refine RO.off rfl ?_
                refine RO.off rfl ?_
                refine RO.opgv (v' := .d (.bool true)) rfl (opv_pick rfl rfl) rfl ?_
                refine RO.opgv (v' := .d (.bool true)) rfl (opv_move rfl) rfl ?_
                refine RO.off rfl ?_
                refine RO.off rfl ?_
                refine RO.off rfl ?_
                refine RO.opgv (v' := .d (.bool true)) rfl (opv_pick rfl rfl) rfl ?_
                refine RO.opv (v' := .d (.bool true)) (opv_pick rfl rfl) rfl ?_
                refine RO.opv (v' := .d (.bool true)) (opv_assign rfl) rfl ?_
                refine RO.nil ?_
                refine Runs.ret ?_
                refine EndQ.tmp (.inr rfl) rfl rfl 0 (by exact Nat.le_refl _) (by exact Nat.zero_le _) trivial ⟨?_, rfl⟩
                first
                  | rfl
                  | (have hh : sv.has j t = false := by
                       cases hh : sv.has j t with
                       | true => rw [hun, if_neg hcn, if_pos hh] at hisT; cases hisT
                       | false => rfl
                     refine bool_eq ?_
                     rw [hun, if_neg hcn, if_neg (by rw [hh]; exact Bool.false_ne_true), bind_mark hj1.1 hj1.2 hh]
                     rfl)
              · try simp only [decide_eq_true_eq, decide_eq_false_iff_not, beq_iff_eq, beq_eq_false_iff_ne, bne_iff_ne, bne_eq_false_iff_eq, Int.not_lt, Int.not_le, ne_eq, Bool.not_eq_true', Bool.not_eq_false', gt_iff_lt, ge_iff_le] at h7
                omega
            · try simp only [decide_eq_true_eq, decide_eq_false_iff_not, beq_iff_eq, beq_eq_false_iff_ne, bne_iff_ne, bne_eq_false_iff_eq, Int.not_lt, Int.not_le, ne_eq, Bool.not_eq_true', Bool.not_eq_false', gt_iff_lt, ge_iff_le] at h6
              first
                | (rw [hun2] at h6; cases h6; done)
                | (rw [hun2] at h6; simp at h6; done)
                | (rw [hun, if_neg hcn] at h6
                   cases hh : sv.has j t with
                   | true => rw [if_pos hh, hh] at h6; simp at h6
                   | false => rw [if_neg (by rw [hh]; exact Bool.false_ne_true), hh] at h6; simp at h6)
          · try simp only [decide_eq_true_eq, decide_eq_false_iff_not, beq_iff_eq, beq_eq_false_iff_ne, bne_iff_ne, bne_eq_false_iff_eq, Int.not_lt, Int.not_le, ne_eq, Bool.not_eq_true', Bool.not_eq_false', gt_iff_lt, ge_iff_le] at h5
            have hcn : ¬ (t.kind = 1 ∧ t.num = j) := fun hh => h5 hh.2
            refine RO.opgv (v' := .d (.bool _)) rfl (opv_move rfl) rfl ?_
            refine RO.opgv (v' := .d (.bool _)) rfl (opv_not rfl rfl) rfl ?_
            refine RO.opgv (v' := .d (.bool _)) rfl (opv_pick rfl rfl) rfl ?_
            refine RO.opgv (v' := .d (.bool _)) rfl (opv_bool rfl rfl rfl) rfl ?_
            refine RO.opv (v' := .d (.bool _)) (opv_pick rfl rfl) rfl ?_
            refine RO.opc (opv_move rfl) (fun h8 => ?_) (fun h8 => ?_)
            · try simp only [decide_eq_true_eq, decide_eq_false_iff_not, beq_iff_eq, beq_eq_false_iff_ne, bne_iff_ne, bne_eq_false_iff_eq, Int.not_lt, Int.not_le, ne_eq, Bool.not_eq_true', Bool.not_eq_false', gt_iff_lt, ge_iff_le] at h8
              refine RO.opgv (v' := .d (.bool _)) rfl (opv_move rfl) rfl ?_
              refine RO.opgc rfl (opv_move rfl) (fun h9 => ?_) (fun h9 => ?_)
              · try simp only [decide_eq_true_eq, decide_eq_false_iff_not, beq_iff_eq, beq_eq_false_iff_ne, bne_iff_ne, bne_eq_false_iff_eq, Int.not_lt, Int.not_le, ne_eq, Bool.not_eq_true', Bool.not_eq_false', gt_iff_lt, ge_iff_le] at h9
                omega
              · try simp only [decide_eq_true_eq, decide_eq_false_iff_not, beq_iff_eq, beq_eq_false_iff_ne, bne_iff_ne, bne_eq_false_iff_eq, Int.not_lt, Int.not_le, ne_eq, Bool.not_eq_true', Bool.not_eq_false', gt_iff_lt, ge_iff_le] at h9
                refine RO.opgv (v' := .d (.bool _)) rfl (opv_move rfl) rfl ?_
                refine RO.opgv (v' := .d (.bool _)) rfl (opv_not rfl rfl) rfl ?_
                refine RO.opgv (v' := .d (.bool _)) rfl (opv_pick rfl rfl) rfl ?_
                refine RO.opgc rfl (opv_move rfl) (fun h10 => ?_) (fun h10 => ?_)
                · try simp only [decide_eq_true_eq, decide_eq_false_iff_not, beq_iff_eq, beq_eq_false_iff_ne, bne_iff_ne, bne_eq_false_iff_eq, Int.not_lt, Int.not_le, ne_eq, Bool.not_eq_true', Bool.not_eq_false', gt_iff_lt, ge_iff_le] at h10
                  skip
                  refine RO.off rfl ?_
                  refine RO.off rfl ?_
                  refine RO.off rfl ?_
                  refine RO.opgv (v' := .d (.bool true)) rfl (opv_pick rfl rfl) rfl ?_
                  refine RO.opv (v' := .d (.bool true)) (opv_pick rfl rfl) rfl ?_
                  refine RO.opv (v' := .d (.bool true)) (opv_assign rfl) rfl ?_
                  refine RO.nil ?_
                  refine Runs.ret ?_
                  refine EndQ.tmp (.inr rfl) rfl rfl 0 (by exact Nat.le_refl _) (by exact Nat.zero_le _) trivial ⟨?_, rfl⟩
                  first
                    | rfl
                    | (have hh : sv.has j t = false := by
                         cases hh : sv.has j t with
                         | true => rw [hun, if_neg hcn, if_pos hh] at hisT; cases hisT
                         | false => rfl
                       refine bool_eq ?_
                       rw [hun, if_neg hcn, if_neg (by rw [hh]; exact Bool.false_ne_true), bind_mark hj1.1 hj1.2 hh]
                       rfl)
                · try simp only [decide_eq_true_eq, decide_eq_false_iff_not, beq_iff_eq, beq_eq_false_iff_ne, bne_iff_ne, bne_eq_false_iff_eq, Int.not_lt, Int.not_le, ne_eq, Bool.not_eq_true', Bool.not_eq_false', gt_iff_lt, ge_iff_le] at h10
                  have hisT : (matchS (C 8) sv [lets j] [t]).2.1 = true := h10
                  refine RO.opgv (v' := .ref 3 0) rfl (opv_move rfl) rfl ?_
                  refine RO.opgn (v' := .d (.int _ _)) (O' := [_, _, _, _]) rfl (opv_callS 1 3 (mark_fn (matchS (C 8) sv [lets j] [t]).1) rfl rfl rfl (Nat.le_of_ble_eq_true rfl) rfl (AV.bds_of_B _ rfl)) rfl rfl ?_
                  refine RO.opgv (v' := .d (.bool _)) rfl (opv_bin rfl rfl rfl) rfl ?_
                  refine RO.opgv (v' := .d (.bool _)) rfl (opv_pick rfl rfl) rfl ?_
                  refine RO.opv (v' := .d (.bool _)) (opv_pick rfl rfl) rfl ?_
                  refine RO.opv (v' := .d (.bool _)) (opv_assign rfl) rfl ?_
                  refine RO.nil ?_
                  refine Runs.ret ?_
                  refine EndQ.tmp (.inr rfl) rfl rfl 0 (by exact Nat.le_refl _) (by exact Nat.zero_le _) trivial ⟨?_, rfl⟩
                  first
                    | rfl
                    | (have hh : sv.has j t = false := by
                         cases hh : sv.has j t with
                         | true => rw [hun, if_neg hcn, if_pos hh] at hisT; cases hisT
                         | false => rfl
                       refine bool_eq ?_
                       rw [hun, if_neg hcn, if_neg (by rw [hh]; exact Bool.false_ne_true), bind_mark hj1.1 hj1.2 hh]
                       rfl)
            · try simp only [decide_eq_true_eq, decide_eq_false_iff_not, beq_iff_eq, beq_eq_false_iff_ne, bne_iff_ne, bne_eq_false_iff_eq, Int.not_lt, Int.not_le, ne_eq, Bool.not_eq_true', Bool.not_eq_false', gt_iff_lt, ge_iff_le] at h8
              first
                | (rw [hun2] at h8; cases h8; done)
                | (rw [hun2] at h8; simp at h8; done)
                | (rw [hun, if_neg hcn] at h8
                   cases hh : sv.has j t with
                   | true => rw [if_pos hh, hh] at h8; simp at h8
                   | false => rw [if_neg (by rw [hh]; exact Bool.false_ne_true), hh] at h8; simp at h8)
        · try simp only [decide_eq_true_eq, decide_eq_false_iff_not, beq_iff_eq, beq_eq_false_iff_ne, bne_iff_ne, bne_eq_false_iff_eq, Int.not_lt, Int.not_le, ne_eq, Bool.not_eq_true', Bool.not_eq_false', gt_iff_lt, ge_iff_le] at h4
          rw [C_bot hq8] at h4; exact absurd hE.2 h4
      · try simp only [decide_eq_true_eq, decide_eq_false_iff_not, beq_iff_eq, beq_eq_false_iff_ne, bne_iff_ne, bne_eq_false_iff_eq, Int.not_lt, Int.not_le, ne_eq, Bool.not_eq_true', Bool.not_eq_false', gt_iff_lt, ge_iff_le] at h3
        exact absurd hE.1 h3
    · try simp only [decide_eq_true_eq, decide_eq_false_iff_not, beq_iff_eq, beq_eq_false_iff_ne, bne_iff_ne, bne_eq_false_iff_eq, Int.not_lt, Int.not_le, ne_eq, Bool.not_eq_true', Bool.not_eq_false', gt_iff_lt, ge_iff_le] at h2
      have hk1 : ¬ t.kind = 1 := h2
      have hcn : ¬ (t.kind = 1 ∧ t.num = j) := fun hh => hk1 hh.1
      refine RO.off rfl ?_
      refine RO.off rfl ?_
      refine RO.off rfl ?_
      refine RO.off rfl ?_
      refine RO.opv (v' := .d (.bool false)) (opv_pick rfl rfl) rfl ?_
      refine RO.opv (v' := .d (.bool false)) (opv_assign rfl) rfl ?_
      refine RO.nil ?_
      refine Runs.has [(3, .ref 0 0), (4, .d (.bool false)), (5, .d (.bool true)), (6, .d (encL _)), (8, .ref 3 0), (9, .d (.int _ _)), (10, .d (.bool false))] ⟨rfl, rfl, rfl, rfl, rfl, rfl, rfl, trivial⟩ ?_
      refine Runs.rseq ?_
      refine RO.opv (v' := .ref 3 0) (opv_move rfl) rfl ?_
      refine RO.opv (v' := .d (enc _)) (opv_load_term rfl rfl rfl) rfl ?_
      refine RO.opv (v' := .d (.int _ _)) (opv_move rfl) rfl ?_
      refine RO.opn (v' := .d (.bool _)) (O' := [_, _, _, _]) (opv_callS 1 3 (has_store_fn sv t j (sv_ok.small' (Nat.le_of_ble_eq_true rfl)) (by omega)) rfl rfl rfl (Nat.le_of_ble_eq_true rfl) rfl (AV.bds_of_B _ rfl)) rfl rfl ?_
      refine RO.opv (v' := .d (.bool _)) (opv_assign rfl) rfl ?_
      refine RO.nil ?_
      refine Runs.has [(3, .ref 0 0), (4, .d (.bool false)), (5, .d (.bool true)), (6, .d (encL _)), (8, .ref 3 0), (9, .d (.int _ _)), (10, .d (.bool false)), (11, .d (.bool _))] ⟨rfl, rfl, rfl, rfl, rfl, rfl, rfl, rfl, trivial⟩ ?_
      refine Runs.seq ?_
      refine Runs.drawn (by kernel_rfl) [] [false, false, false, false, false, false, false, false, false, false, false, false, false] [false, false, false, false, false, true, false, false, false, false, false, false, false] (by decide +kernel) ?_
      refine RD.opv (v' := .ref 3 0) (opv_move rfl) rfl ?_
      refine RD.opv (v' := .d (encL _)) (opv_move rfl) rfl ?_
      refine RD.opv (v' := .d (.int _ _)) (opv_move rfl) rfl ?_
      refine RD.opv (v' := .d (enc _)) (opv_callF (let_fn j) rfl rfl rfl trivial) rfl ?_
      refine RD.opv (v' := .d (enc _)) (opv_load_term rfl rfl rfl) rfl ?_
      refine RD.opn (O' := [_, _, _, _]) (opv_callS 1 3 (unify_fn 8 (by decide) sv (sv_sg 8) (lets j) t glj gt) rfl rfl rfl (Nat.le_of_ble_eq_true rfl) rfl (AV.bds_of_B _ rfl)) rfl rfl trivial ?_
      refine RD.opv (opv_move rfl) rfl ?_
      refine RD.opv (v' := .d (.bool _)) (opv_extract rfl rfl) rfl ?_
      refine RD.opv (v' := .d (.int _ _)) (opv_extract rfl rfl) rfl ?_
      refine RD.opv (v' := .d (.int _ _)) (opv_extract rfl rfl) rfl ?_
      refine RD.opv (v' := .d (.bool _)) (opv_assign rfl) rfl ?_
      refine RD.opv (v' := .d (.int _ _)) (opv_assign rfl) rfl ?_
      refine RD.opv (v' := .d (.int _ _)) (opv_assign rfl) rfl ?_
      refine RD.nil ?_
      refine thenQ_normal ?_
      refine Runs.has [(4, .d (.bool false)), (5, .d (.bool true)), (6, .d (encL _)), (8, .ref 3 0), (10, .d (.bool false)), (11, .d (.bool _)), (12, .d (.bool _)), (13, .d (.int _ _)), (14, .d (.int _ _))] ⟨rfl, rfl, rfl, rfl, rfl, rfl, rfl, rfl, rfl, trivial⟩ ?_
      refine Runs.rseq ?_
      refine RO.opv (v' := .d (.bool true)) (opv_move rfl) rfl ?_
      refine RO.opv (v' := .d (.bool true)) (opv_move rfl) rfl ?_
      refine RO.opgv (v' := .d (.int _ _)) rfl (opv_move rfl) rfl ?_
      refine RO.opgv (v' := .d (.bool _)) rfl (opv_bin rfl rfl rfl) rfl ?_
      refine RO.opv (v' := .d (.bool _)) (opv_pick rfl rfl) rfl ?_
      refine RO.opc (opv_move rfl) (fun h11 => ?_) (fun h11 => ?_)
      · try simp only [decide_eq_true_eq, decide_eq_false_iff_not, beq_iff_eq, beq_eq_false_iff_ne, bne_iff_ne, bne_eq_false_iff_eq, Int.not_lt, Int.not_le, ne_eq, Bool.not_eq_true', Bool.not_eq_false', gt_iff_lt, ge_iff_le] at h11
        refine RO.opgv (v' := .d (.int _ _)) rfl (opv_move rfl) rfl ?_
        refine RO.opgv (v' := .d (encL _)) rfl (opv_move rfl) rfl ?_
        refine RO.opgv (v' := .d (.int _ _)) rfl (opv_callF (lbot_fn (C 8) (C_ok (by decide))) rfl rfl rfl trivial) rfl ?_
        refine RO.opgv (v' := .d (.bool _)) rfl (opv_bin rfl rfl rfl) rfl ?_
        refine RO.opv (v' := .d (.bool _)) (opv_pick rfl rfl) rfl ?_
        refine RO.opc (opv_move rfl) (fun h12 => ?_) (fun h12 => ?_)
        · try simp only [decide_eq_true_eq, decide_eq_false_iff_not, beq_iff_eq, beq_eq_false_iff_ne, bne_iff_ne, bne_eq_false_iff_eq, Int.not_lt, Int.not_le, ne_eq, Bool.not_eq_true', Bool.not_eq_false', gt_iff_lt, ge_iff_le] at h12
          refine RO.opgv (v' := .d (.bool _)) rfl (opv_move rfl) rfl ?_
          refine RO.opgv (v' := .d (.bool false)) rfl (opv_move rfl) rfl ?_
          refine RO.opgv (v' := .d (.bool false)) rfl (opv_move rfl) rfl ?_
          refine RO.opgv (v' := .d (.bool _)) rfl (opv_move rfl) rfl ?_
          refine RO.opgv (v' := .d (.bool _)) rfl (opv_not rfl rfl) rfl ?_
          refine RO.opgv (v' := .d (.bool _)) rfl (opv_pick rfl rfl) rfl ?_
          refine RO.opgv (v' := .d (.bool _)) rfl (opv_bool rfl rfl rfl) rfl ?_
          refine RO.opv (v' := .d (.bool _)) (opv_pick rfl rfl) rfl ?_
          refine RO.opc (opv_move rfl) (fun h13 => ?_) (fun h13 => ?_)
          · try simp only [decide_eq_true_eq, decide_eq_false_iff_not, beq_iff_eq, beq_eq_false_iff_ne, bne_iff_ne, bne_eq_false_iff_eq, Int.not_lt, Int.not_le, ne_eq, Bool.not_eq_true', Bool.not_eq_false', gt_iff_lt, ge_iff_le] at h13
            refine RO.opgv (v' := .d (.bool false)) rfl (opv_move rfl) rfl ?_
            refine RO.opgv (v' := .d (.bool false)) rfl (opv_move rfl) rfl ?_
            refine RO.opgv (v' := .d (.bool _)) rfl (opv_move rfl) rfl ?_
            refine RO.opgv (v' := .d (.bool _)) rfl (opv_not rfl rfl) rfl ?_
            refine RO.opgv (v' := .d (.bool _)) rfl (opv_pick rfl rfl) rfl ?_
            refine RO.opgc rfl (opv_move rfl) (fun h14 => ?_) (fun h14 => ?_)
            · try simp only [decide_eq_true_eq, decide_eq_false_iff_not, beq_iff_eq, beq_eq_false_iff_ne, bne_iff_ne, bne_eq_false_iff_eq, Int.not_lt, Int.not_le, ne_eq, Bool.not_eq_true', Bool.not_eq_false', gt_iff_lt, ge_iff_le] at h14
              skip
              refine RO.off rfl ?_
              refine RO.off rfl ?_
              refine RO.off rfl ?_
              refine RO.opgv (v' := .d (.bool true)) rfl (opv_pick rfl rfl) rfl ?_
              refine RO.opv (v' := .d (.bool true)) (opv_pick rfl rfl) rfl ?_
              refine RO.opv (v' := .d (.bool true)) (opv_assign rfl) rfl ?_
              refine RO.nil ?_
              refine Runs.ret ?_
              refine EndQ.tmp (.inr rfl) rfl rfl 0 (by exact Nat.le_refl _) (by exact Nat.zero_le _) trivial ⟨?_, rfl⟩
              first
                | rfl
                | (have hh : sv.has j t = false := by
                     cases hh : sv.has j t with
                     | true => rw [hun, if_neg hcn, if_pos hh] at hisT; cases hisT
                     | false => rfl
                   refine bool_eq ?_
                   rw [hun, if_neg hcn, if_neg (by rw [hh]; exact Bool.false_ne_true), bind_mark hj1.1 hj1.2 hh]
                   rfl)
            · try simp only [decide_eq_true_eq, decide_eq_false_iff_not, beq_iff_eq, beq_eq_false_iff_ne, bne_iff_ne, bne_eq_false_iff_eq, Int.not_lt, Int.not_le, ne_eq, Bool.not_eq_true', Bool.not_eq_false', gt_iff_lt, ge_iff_le] at h14
              have hisT : (matchS (C 8) sv [lets j] [t]).2.1 = true := h14
              refine RO.opgv (v' := .ref 3 0) rfl (opv_move rfl) rfl ?_
              refine RO.opgn (v' := .d (.int _ _)) (O' := [_, _, _, _]) rfl (opv_callS 1 3 (mark_fn (matchS (C 8) sv [lets j] [t]).1) rfl rfl rfl (Nat.le_of_ble_eq_true rfl) rfl (AV.bds_of_B _ rfl)) rfl rfl ?_
              refine RO.opgv (v' := .d (.bool _)) rfl (opv_bin rfl rfl rfl) rfl ?_
              refine RO.opgv (v' := .d (.bool _)) rfl (opv_pick rfl rfl) rfl ?_
              refine RO.opv (v' := .d (.bool _)) (opv_pick rfl rfl) rfl ?_
              refine RO.opv (v' := .d (.bool _)) (opv_assign rfl) rfl ?_
              refine RO.nil ?_
              refine Runs.ret ?_
              refine EndQ.tmp (.inr rfl) rfl rfl 0 (by exact Nat.le_refl _) (by exact Nat.zero_le _) trivial ⟨?_, rfl⟩
              first
                | rfl
                | (have hh : sv.has j t = false := by
                     cases hh : sv.has j t with
                     | true => rw [hun, if_neg hcn, if_pos hh] at hisT; cases hisT
                     | false => rfl
                   refine bool_eq ?_
                   rw [hun, if_neg hcn, if_neg (by rw [hh]; exact Bool.false_ne_true), bind_mark hj1.1 hj1.2 hh]
                   rfl)
          · try simp only [decide_eq_true_eq, decide_eq_false_iff_not, beq_iff_eq, beq_eq_false_iff_ne, bne_iff_ne, bne_eq_false_iff_eq, Int.not_lt, Int.not_le, ne_eq, Bool.not_eq_true', Bool.not_eq_false', gt_iff_lt, ge_iff_le] at h13
            first
              | (rw [hun2] at h13; cases h13; done)
              | (rw [hun2] at h13; simp at h13; done)
              | (rw [hun, if_neg hcn] at h13
                 cases hh : sv.has j t with
                 | true => rw [if_pos hh, hh] at h13; simp at h13
                 | false => rw [if_neg (by rw [hh]; exact Bool.false_ne_true), hh] at h13; simp at h13)
        · try simp only [decide_eq_true_eq, decide_eq_false_iff_not, beq_iff_eq, beq_eq_false_iff_ne, bne_iff_ne, bne_eq_false_iff_eq, Int.not_lt, Int.not_le, ne_eq, Bool.not_eq_true', Bool.not_eq_false', gt_iff_lt, ge_iff_le] at h12
          rw [C_bot hq8] at h12; exact absurd hE.2 h12
      · try simp only [decide_eq_true_eq, decide_eq_false_iff_not, beq_iff_eq, beq_eq_false_iff_ne, bne_iff_ne, bne_eq_false_iff_eq, Int.not_lt, Int.not_le, ne_eq, Bool.not_eq_true', Bool.not_eq_false', gt_iff_lt, ge_iff_le] at h11
        exact absurd hE.1 h11
end Go.Proofs.Ytegfpnpghfcopaa.AM
