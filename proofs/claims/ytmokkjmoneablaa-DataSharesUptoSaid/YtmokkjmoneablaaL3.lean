import Derived.Test.YtmokkjmoneablaaL0
namespace Go.Proofs.Ytmokkjmoneablaa.AM
open Go
set_option linter.unusedVariables false
set_option linter.unusedSimpArgs false
theorem dataShares_fn (ts : List Term) (g2 : bulks ts ≤ 2 ^ 20) (_g2' : fitss ts) : Fn Try.prog 6 [.d (.list (encs ts))] [] (.d (.bool true)) [] := by
  have hk : 3 < 16 := by decide
  have hL := bulks_len ts
  have hN := newB_cases (C 3) ts
  have hlen := newB_all_len (C 3) ts
  have hsm := newB_small (l := C 3) (ts := ts) (by omega)
  refine Does.run Try.func6 rfl Try.ntmps6 rfl fun K hK => ?_
  refine Runs.rseq ?_
  refine RO.opv (v' := .d (.bool false)) (opv_assign rfl) rfl ?_
  refine RO.nil ?_
  refine Runs.rseq ?_
  refine RO.opv (v' := .d (.bool true)) (opv_callF (shown_fn) rfl rfl rfl trivial) rfl ?_
  refine RO.opv (v' := .d (.bool true)) (opv_assign rfl) rfl ?_
  refine RO.nil ?_
  refine Runs.has [(0, .d (.list (encs _))), (2, .d (.bool false)), (3, .d (.bool true))] ⟨rfl, rfl, rfl, trivial⟩ ?_
  refine Runs.rseq ?_
  refine RO.opv (v' := .d (.list (encPs _))) (opv_callF (chainp_fn 3 (by decide)) rfl rfl rfl trivial) rfl ?_
  refine RO.opv (opv_callF (lnewC_fn 3 (by decide)) rfl rfl rfl ⟨trivial, trivial, trivial⟩) rfl ?_
  refine RO.opv (opv_move rfl) rfl ?_
  refine RO.opv (v' := .d (encL _)) (opv_extract rfl rfl) rfl ?_
  refine RO.opv (v' := .d (.int _ _)) (opv_extract rfl rfl) rfl ?_
  refine RO.opv (v' := .d (encL _)) (opv_assign rfl) rfl ?_
  refine RO.opv (v' := .d (.int _ _)) (opv_assign rfl) rfl ?_
  refine RO.nil ?_
  refine Runs.has [(0, .d (.list (encs _))), (2, .d (.bool false)), (3, .d (.bool true)), (4, .d (encL _))] ⟨rfl, rfl, rfl, rfl, trivial⟩ ?_
  refine Runs.seq ?_
  refine Runs.rseq ?_
  refine RO.opv (v' := .d (encL _)) (opv_move rfl) rfl ?_
  refine RO.opv (v' := .d (.bool false)) (opv_eqnil rfl rfl rfl) rfl ?_
  refine RO.opv (v' := .d (.bool false)) (opv_move rfl) rfl ?_
  refine RO.opgv (v' := .d (.list (encs _))) rfl (opv_move rfl) rfl ?_
  refine RO.opgv (v' := .d (.bool _)) rfl (opv_callF (few_fn ts (by omega)) rfl rfl rfl trivial) rfl ?_
  refine RO.opgv (v' := .d (.bool _)) rfl (opv_not rfl rfl) rfl ?_
  refine RO.opc (opv_pick rfl rfl) (fun h1 => ?_) (fun h1 => ?_)
  · try simp only [decide_eq_true_eq, decide_eq_false_iff_not, beq_iff_eq, beq_eq_false_iff_ne, bne_iff_ne, bne_eq_false_iff_eq, Int.not_lt, Int.not_le, ne_eq, Bool.not_eq_true', Bool.not_eq_false', gt_iff_lt, ge_iff_le] at h1
    refine RO.nil ?_
    refine Runs.condT rfl ?_
    refine Runs.has [(0, .d (.list (encs _))), (2, .d (.bool false)), (3, .d (.bool true)), (4, .d (encL _))] ⟨rfl, rfl, rfl, rfl, trivial⟩ ?_
    refine Runs.rseq ?_
    refine RO.opv (v' := .d (.bool true)) (opv_move rfl) rfl ?_
    refine RO.opv (v' := .d (.bool true)) (opv_move rfl) rfl ?_
    refine RO.opgv (v' := .d (encL _)) rfl (opv_move rfl) rfl ?_
    refine RO.opgv (v' := .d (.bool true)) rfl (opv_nenil rfl rfl rfl) rfl ?_
    refine RO.opv (v' := .d (.bool true)) (opv_pick rfl rfl) rfl ?_
    refine RO.opv (v' := .d (.bool true)) (opv_assign rfl) rfl ?_
    refine RO.nil ?_
    refine Runs.ret ?_
    refine thenQ_ret ?_
    refine EndQ.tmp (.inr rfl) rfl rfl 0 (by exact Nat.le_refl _) (by exact Nat.zero_le _) trivial ⟨?_, rfl⟩
    rfl
  · try simp only [decide_eq_true_eq, decide_eq_false_iff_not, beq_iff_eq, beq_eq_false_iff_ne, bne_iff_ne, bne_eq_false_iff_eq, Int.not_lt, Int.not_le, ne_eq, Bool.not_eq_true', Bool.not_eq_false', gt_iff_lt, ge_iff_le] at h1
    refine RO.nil ?_
    refine Runs.condF rfl ?_
    refine Runs.skip ?_
    refine thenQ_normal ?_
    refine Runs.has [(0, .d (.list (encs _))), (2, .d (.bool false)), (3, .d (.bool true)), (4, .d (encL _))] ⟨rfl, rfl, rfl, rfl, trivial⟩ ?_
    refine Runs.rseq ?_
    refine RO.opv (v' := .d (encL _)) (opv_move rfl) rfl ?_
    refine RO.opv (v' := .d (.list (encs _))) (opv_move rfl) rfl ?_
    refine RO.opv (opv_callF (dnew_fn (C 3) (C_ok (by decide)) ts (by omega)) rfl rfl rfl ⟨trivial, trivial, trivial, trivial⟩) rfl ?_
    refine RO.opv (opv_move rfl) rfl ?_
    refine RO.opv (v' := .d (encOB _ _)) (opv_extract rfl rfl) rfl ?_
    refine RO.opv (v' := .d (.int _ _)) (opv_extract rfl rfl) rfl ?_
    refine RO.opv (v' := .d (.int _ _)) (opv_extract rfl rfl) rfl ?_
    refine RO.opv (v' := .d (encOB _ _)) (opv_assign rfl) rfl ?_
    refine RO.opv (v' := .d (.int _ _)) (opv_assign rfl) rfl ?_
    refine RO.opv (v' := .d (.int _ _)) (opv_assign rfl) rfl ?_
    refine RO.nil ?_
    refine Runs.has [(0, .d (.list (encs _))), (2, .d (.bool false)), (3, .d (.bool true)), (6, .d (encOB _ _)), (8, .d (.int _ _))] ⟨rfl, rfl, rfl, rfl, rfl, trivial⟩ ?_
    refine Runs.seq ?_
    refine Runs.rseq ?_
    refine RO.opv (v' := .d (.int _ _)) (opv_move rfl) rfl ?_
    refine RO.opv (v' := .d (.bool _)) (opv_bin rfl rfl rfl) rfl ?_
    refine RO.opc (opv_move rfl) (fun h2 => ?_) (fun h2 => ?_)
    · try simp only [decide_eq_true_eq, decide_eq_false_iff_not, beq_iff_eq, beq_eq_false_iff_ne, bne_iff_ne, bne_eq_false_iff_eq, Int.not_lt, Int.not_le, ne_eq, Bool.not_eq_true', Bool.not_eq_false', gt_iff_lt, ge_iff_le] at h2
      have he := h2
      refine RO.off rfl ?_
      refine RO.off rfl ?_
      refine RO.opv (v' := .d (.bool true)) (opv_pick rfl rfl) rfl ?_
      refine RO.nil ?_
      refine Runs.condT rfl ?_
      refine Runs.has [(0, .d (.list (encs _))), (2, .d (.bool false)), (3, .d (.bool true)), (6, .d (encOB _ _)), (8, .d (.int _ _))] ⟨rfl, rfl, rfl, rfl, rfl, trivial⟩ ?_
      refine Runs.rseq ?_
      refine RO.opv (v' := .d (.bool true)) (opv_move rfl) rfl ?_
      refine RO.opv (v' := .d (.bool true)) (opv_move rfl) rfl ?_
      refine RO.opgv (v' := .d (.int _ _)) rfl (opv_move rfl) rfl ?_
      refine RO.opgv (v' := .d (.bool _)) rfl (opv_bin rfl rfl rfl) rfl ?_
      refine RO.opv (v' := .d (.bool _)) (opv_pick rfl rfl) rfl ?_
      refine RO.opv (v' := .d (.bool _)) (opv_assign rfl) rfl ?_
      refine RO.nil ?_
      refine Runs.ret ?_
      refine thenQ_ret ?_
      refine EndQ.tmp (.inr rfl) rfl rfl 0 (by exact Nat.le_refl _) (by exact Nat.zero_le _) trivial ⟨?_, rfl⟩
      refine bool_eq ?_; simp [he]
    · try simp only [decide_eq_true_eq, decide_eq_false_iff_not, beq_iff_eq, beq_eq_false_iff_ne, bne_iff_ne, bne_eq_false_iff_eq, Int.not_lt, Int.not_le, ne_eq, Bool.not_eq_true', Bool.not_eq_false', gt_iff_lt, ge_iff_le] at h2
      have he : (newB (C 3) ts).2.2 = 0 := h2
      refine RO.opgv (v' := .d (encOB _ _)) rfl (opv_move rfl) rfl ?_
      refine RO.opgv (v' := .d (.bool _)) rfl (opv_eqnil_ob rfl rfl) rfl ?_
      refine RO.opc (opv_pick rfl rfl) (fun h3 => ?_) (fun h3 => ?_)
      · try simp only [decide_eq_true_eq, decide_eq_false_iff_not, beq_iff_eq, beq_eq_false_iff_ne, bne_iff_ne, bne_eq_false_iff_eq, Int.not_lt, Int.not_le, ne_eq, Bool.not_eq_true', Bool.not_eq_false', gt_iff_lt, ge_iff_le] at h3
        skip
        rcases hN with ⟨_, _, h1, _⟩ | ⟨_, _, h1⟩
        · rw [h1] at h3; cases h3
        · exact absurd he h1
      · try simp only [decide_eq_true_eq, decide_eq_false_iff_not, beq_iff_eq, beq_eq_false_iff_ne, bne_iff_ne, bne_eq_false_iff_eq, Int.not_lt, Int.not_le, ne_eq, Bool.not_eq_true', Bool.not_eq_false', gt_iff_lt, ge_iff_le] at h3
        skip
        refine RO.nil ?_
        refine Runs.condF rfl ?_
        refine Runs.skip ?_
        refine thenQ_normal ?_
        refine Runs.has [(0, .d (.list (encs _))), (2, .d (.bool false)), (3, .d (.bool true)), (6, .d (encOB _ _))] ⟨rfl, rfl, rfl, rfl, trivial⟩ ?_
        refine Runs.rseq ?_
        refine RO.opv (v' := .d (encOB _ _)) (opv_move rfl) rfl ?_
        refine RO.opv (v' := .d (.list (encCls _))) (opv_callF (all_fn (C 3) (newB (C 3) ts).1 hlen) rfl rfl rfl trivial) rfl ?_
        refine RO.opv (v' := .d (.list (encCls _))) (opv_assign rfl) rfl ?_
        refine RO.nil ?_
        refine Runs.has [(0, .d (.list (encs _))), (2, .d (.bool false)), (3, .d (.bool true)), (6, .d (encOB _ _)), (9, .d (.list (encCls _)))] ⟨rfl, rfl, rfl, rfl, rfl, trivial⟩ ?_
        refine Runs.seq ?_
        refine Runs.rseq ?_
        refine RO.opv (v' := .d (.list (encCls _))) (opv_move rfl) rfl ?_
        refine RO.opv (v' := .d (.int _ _)) (opv_len_cls rfl) rfl ?_
        refine RO.opv (v' := .d (.list (encs _))) (opv_move rfl) rfl ?_
        refine RO.opv (v' := .d (.int _ _)) (opv_len_terms rfl) rfl ?_
        refine RO.opc (opv_bin rfl rfl rfl) (fun h4 => ?_) (fun h4 => ?_)
        · try simp only [decide_eq_true_eq, decide_eq_false_iff_not, beq_iff_eq, beq_eq_false_iff_ne, bne_iff_ne, bne_eq_false_iff_eq, Int.not_lt, Int.not_le, ne_eq, Bool.not_eq_true', Bool.not_eq_false', gt_iff_lt, ge_iff_le] at h4
          rcases hN with ⟨_, _, h1, _⟩ | ⟨_, _, h1⟩
          · rw [h1] at h4; exact absurd (by show ((parsesT (C 3) ts).length : Int) = _; rw [parsesT_len]) h4
          · exact absurd he h1
        · try simp only [decide_eq_true_eq, decide_eq_false_iff_not, beq_iff_eq, beq_eq_false_iff_ne, bne_iff_ne, bne_eq_false_iff_eq, Int.not_lt, Int.not_le, ne_eq, Bool.not_eq_true', Bool.not_eq_false', gt_iff_lt, ge_iff_le] at h4
          refine RO.nil ?_
          refine Runs.condF rfl ?_
          refine Runs.skip ?_
          refine thenQ_normal ?_
          refine Runs.has [(2, .d (.bool false)), (3, .d (.bool true)), (6, .d (encOB _ _)), (9, .d (.list (encCls _)))] ⟨rfl, rfl, rfl, rfl, trivial⟩ ?_
          refine Runs.seq ?_
          refine Runs.rseq ?_
          refine RO.opv (v' := .d (.int _ _)) (opv_assign rfl) rfl ?_
          refine RO.nil ?_
          refine Runs.block ?_
          refine Runs.loopC (X := Nat) (fun i => i ≤ (allB (newB (C 3) ts).1).length) (fun i => (allB (newB (C 3) ts).1).length - i) [(3, .d (.bool true)), (6, .d (encOB _ _)), (9, .d (.list (encCls _)))] (fun i => [(10, .d (.int .i64 (i : Nat)))]) [] (fun i => []) (0) ⟨rfl, rfl, rfl, trivial⟩ ⟨rfl, trivial⟩ rfl (by omega) fun i hi => ?_
          refine Runs.seq ?_
          refine Runs.rseq ?_
          refine RO.opv (v' := .d (.int _ _)) (opv_move rfl) rfl ?_
          refine RO.opv (v' := .d (.list (encCls _))) (opv_move rfl) rfl ?_
          refine RO.opv (v' := .d (.int _ _)) (opv_len_cls rfl) rfl ?_
          refine RO.opc (opv_bin rfl rfl rfl) (fun h5 => ?_) (fun h5 => ?_)
          · try simp only [decide_eq_true_eq, decide_eq_false_iff_not, beq_iff_eq, beq_eq_false_iff_ne, bne_iff_ne, bne_eq_false_iff_eq, Int.not_lt, Int.not_le, ne_eq, Bool.not_eq_true', Bool.not_eq_false', gt_iff_lt, ge_iff_le] at h5
            have hi2 : i < (allB (newB (C 3) ts).1).length := by omega
            refine RO.nil ?_
            refine Runs.condT rfl ?_
            refine Runs.skip ?_
            refine thenQ_normal ?_
            refine Runs.has [(3, .d (.bool true)), (6, .d (encOB _ _)), (9, .d (.list (encCls _))), (10, .d (.int _ _))] ⟨rfl, rfl, rfl, rfl, trivial⟩ ?_
            refine Runs.seq ?_
            refine Runs.block ?_
            refine Runs.seq ?_
            refine Runs.drawn (by kernel_rfl) [] [false, false, false, false, false, false, false, false, false, false, false, false, false, false, false, false] [false, false, false, false, false, false, false, false, false, false, false, false, false, false, false, false] (by decide +kernel) ?_
            refine RD.opv (v' := .d (encOB _ _)) (opv_move rfl) rfl ?_
            refine RD.opv (v' := .d (.list (encCls _))) (opv_move rfl) rfl ?_
            refine RD.opv (v' := .d (.int _ _)) (opv_move rfl) rfl ?_
            refine RD.opv (v' := .d (.ptr _)) (opv_index_cls rfl rfl hi2) rfl ?_
            refine RD.opv (v' := .d (.ptr _)) (opv_field_ptr rfl) rfl ?_
            refine RD.opv (v' := .d (.ptr _)) (opv_field_ptr rfl) rfl ?_
            refine RD.opv (v' := .d (.str _)) (opv_load_ptr rfl rfl) rfl ?_
            refine RD.opv (v' := .d (.list (encCls _))) (opv_move rfl) rfl ?_
            refine RD.opv (v' := .d (.int _ _)) (opv_move rfl) rfl ?_
            refine RD.opv (v' := .d (.ptr _)) (opv_index_cls rfl rfl hi2) rfl ?_
            refine RD.opv (v' := .d (.ptr _)) (opv_field_ptr rfl) rfl ?_
            refine RD.opv (v' := .d (.ptr _)) (opv_field_ptr rfl) rfl ?_
            refine RD.opv (v' := .d (.list (encs _))) (opv_load_ptr rfl rfl) rfl ?_
            refine RD.opv (v' := .d (.int _ _)) (opv_len_terms rfl) rfl ?_
            refine RD.opv (v' := .d (.list (encCls _))) (opv_callF (get_fn (C 3) (newB (C 3) ts).1 hlen (allB (newB (C 3) ts).1)[i].head.name ((allB (newB (C 3) ts).1)[i].head.kids.length : Int)) rfl rfl rfl trivial) rfl ?_
            refine RD.opv (v' := .d (.list (encCls _))) (opv_assign rfl) rfl ?_
            refine RD.nil ?_
            refine thenQ_normal ?_
            refine Runs.has [(3, .d (.bool true)), (6, .d (encOB _ _)), (9, .d (.list (encCls _))), (10, .d (.int _ _)), (11, .d (.list (encCls _)))] ⟨rfl, rfl, rfl, rfl, rfl, trivial⟩ ?_
            refine Runs.rseq ?_
            refine RO.opv (v' := .d (.int _ _)) (opv_assign rfl) rfl ?_
            refine RO.nil ?_
            refine Runs.seq ?_
            refine Runs.rseq ?_
            refine RO.opv (v' := .d (.int _ _)) (opv_assign rfl) rfl ?_
            refine RO.nil ?_
            refine Runs.block ?_
            refine Runs.loopC (X := Nat) (fun j => j ≤ (allB (newB (C 3) ts).1).length) (fun j => (allB (newB (C 3) ts).1).length - j) [(3, .d (.bool true)), (6, .d (encOB _ _)), (9, .d (.list (encCls _))), (10, .d (.int _ _)), (11, .d (.list (encCls _)))] (fun j => [(12, .d (.int .i64 ((getB ((allB (newB (C 3) ts).1).take j) (allB (newB (C 3) ts).1)[i].head.name ((allB (newB (C 3) ts).1)[i].head.kids.length : Int)).length : Nat))), (13, .d (.int .i64 (j : Nat)))]) [] (fun j => []) (0) ⟨rfl, rfl, rfl, rfl, rfl, trivial⟩ ⟨rfl, rfl, trivial⟩ rfl (by omega) fun j hj => ?_
            refine Runs.seq ?_
            refine Runs.rseq ?_
            refine RO.opv (v' := .d (.int _ _)) (opv_move rfl) rfl ?_
            refine RO.opv (v' := .d (.list (encCls _))) (opv_move rfl) rfl ?_
            refine RO.opv (v' := .d (.int _ _)) (opv_len_cls rfl) rfl ?_
            refine RO.opc (opv_bin rfl rfl rfl) (fun h6 => ?_) (fun h6 => ?_)
            · try simp only [decide_eq_true_eq, decide_eq_false_iff_not, beq_iff_eq, beq_eq_false_iff_ne, bne_iff_ne, bne_eq_false_iff_eq, Int.not_lt, Int.not_le, ne_eq, Bool.not_eq_true', Bool.not_eq_false', gt_iff_lt, ge_iff_le] at h6
              have hj2 : j < (allB (newB (C 3) ts).1).length := by omega
              refine RO.nil ?_
              refine Runs.condT rfl ?_
              refine Runs.skip ?_
              refine thenQ_normal ?_
              refine Runs.has [(3, .d (.bool true)), (6, .d (encOB _ _)), (9, .d (.list (encCls _))), (10, .d (.int _ _)), (11, .d (.list (encCls _))), (12, .d (.int _ _)), (13, .d (.int _ _))] ⟨rfl, rfl, rfl, rfl, rfl, rfl, rfl, trivial⟩ ?_
              refine Runs.seq ?_
              refine Runs.block ?_
              refine Runs.seq ?_
              refine Runs.drawn (by kernel_rfl) [] [false, false, false, false, false, false, false, false, false, false, false, false, false, false, false, false, false, false, false, false, false, false, false, false, false, false, false, false, false, false] [false, false, false, false, false, false, false, false, false, false, false, false, false, false, false, false, false, false, false, false, false, false, false, false, false, false, false, false, false, false] (by decide +kernel) ?_
              refine RD.opv (v' := .d (.list (encCls _))) (opv_move rfl) rfl ?_
              refine RD.opv (v' := .d (.int _ _)) (opv_move rfl) rfl ?_
              refine RD.opv (v' := .d (.ptr _)) (opv_index_cls rfl rfl hj2) rfl ?_
              refine RD.opv (v' := .d (.ptr _)) (opv_field_ptr rfl) rfl ?_
              refine RD.opv (v' := .d (.ptr _)) (opv_field_ptr rfl) rfl ?_
              refine RD.opv (v' := .d (.str _)) (opv_load_ptr rfl rfl) rfl ?_
              refine RD.opv (v' := .d (.list (encCls _))) (opv_move rfl) rfl ?_
              refine RD.opv (v' := .d (.int _ _)) (opv_move rfl) rfl ?_
              refine RD.opv (v' := .d (.ptr _)) (opv_index_cls rfl rfl hi2) rfl ?_
              refine RD.opv (v' := .d (.ptr _)) (opv_field_ptr rfl) rfl ?_
              refine RD.opv (v' := .d (.ptr _)) (opv_field_ptr rfl) rfl ?_
              refine RD.opv (v' := .d (.str _)) (opv_load_ptr rfl rfl) rfl ?_
              refine RD.opv (v' := .d (.bool _)) (opv_bin rfl rfl rfl) rfl ?_
              refine RD.opc (opv_move rfl) (fun h7 => ?_) (fun h7 => ?_)
              · try simp only [decide_eq_true_eq, decide_eq_false_iff_not, beq_iff_eq, beq_eq_false_iff_ne, bne_iff_ne, bne_eq_false_iff_eq, Int.not_lt, Int.not_le, ne_eq, Bool.not_eq_true', Bool.not_eq_false', gt_iff_lt, ge_iff_le] at h7
                have hq1 := h7
                refine RD.opgv (v' := .d (.list (encCls _))) rfl (opv_move rfl) rfl ?_
                refine RD.opgv (v' := .d (.int _ _)) rfl (opv_move rfl) rfl ?_
                refine RD.opgv (v' := .d (.ptr _)) rfl (opv_index_cls rfl rfl hj2) rfl ?_
                refine RD.opgv (v' := .d (.ptr _)) rfl (opv_field_ptr rfl) rfl ?_
                refine RD.opgv (v' := .d (.ptr _)) rfl (opv_field_ptr rfl) rfl ?_
                refine RD.opgv (v' := .d (.list (encs _))) rfl (opv_load_ptr rfl rfl) rfl ?_
                refine RD.opgv (v' := .d (.int _ _)) rfl (opv_len_terms rfl) rfl ?_
                refine RD.opgv (v' := .d (.list (encCls _))) rfl (opv_move rfl) rfl ?_
                refine RD.opgv (v' := .d (.int _ _)) rfl (opv_move rfl) rfl ?_
                refine RD.opgv (v' := .d (.ptr _)) rfl (opv_index_cls rfl rfl hi2) rfl ?_
                refine RD.opgv (v' := .d (.ptr _)) rfl (opv_field_ptr rfl) rfl ?_
                refine RD.opgv (v' := .d (.ptr _)) rfl (opv_field_ptr rfl) rfl ?_
                refine RD.opgv (v' := .d (.list (encs _))) rfl (opv_load_ptr rfl rfl) rfl ?_
                refine RD.opgv (v' := .d (.int _ _)) rfl (opv_len_terms rfl) rfl ?_
                refine RD.opgv (v' := .d (.bool _)) rfl (opv_bin rfl rfl rfl) rfl ?_
                refine RD.opc (opv_pick rfl rfl) (fun h8 => ?_) (fun h8 => ?_)
                · try simp only [decide_eq_true_eq, decide_eq_false_iff_not, beq_iff_eq, beq_eq_false_iff_ne, bne_iff_ne, bne_eq_false_iff_eq, Int.not_lt, Int.not_le, ne_eq, Bool.not_eq_true', Bool.not_eq_false', gt_iff_lt, ge_iff_le] at h8
                  have hkt : hasKey (allB (newB (C 3) ts).1)[i].head.name ((allB (newB (C 3) ts).1)[i].head.kids.length : Int) (allB (newB (C 3) ts).1)[j] = true := by unfold hasKey; rw [Bool.and_eq_true, beq_iff_eq]; exact ⟨hq1.symm, by simp; omega⟩
                  obtain ⟨hlt, hat⟩ := getB_at hj2 hkt
                  refine RD.nil ?_
                  refine thenQ_normal ?_
                  refine Runs.condT rfl ?_
                  refine Runs.has [(3, .d (.bool true)), (6, .d (encOB _ _)), (9, .d (.list (encCls _))), (10, .d (.int _ _)), (11, .d (.list (encCls _))), (12, .d (.int _ _)), (13, .d (.int _ _))] ⟨rfl, rfl, rfl, rfl, rfl, rfl, rfl, trivial⟩ ?_
                  refine Runs.seq ?_
                  refine Runs.seq ?_
                  refine Runs.drawn (by kernel_rfl) [] [false, false, false, false, false, false, false, false, false, false, false, false, false, false, false, false] [false, false, false, false, false, false, false, false, false, false, false, false, false, false, false, false] (by decide +kernel) ?_
                  refine RD.opv (v' := .d (.int _ _)) (opv_move rfl) rfl ?_
                  refine RD.opv (v' := .d (.list (encCls _))) (opv_move rfl) rfl ?_
                  refine RD.opv (v' := .d (.int _ _)) (opv_len_cls rfl) rfl ?_
                  refine RD.opv (v' := .d (.bool _)) (opv_bin rfl rfl rfl) rfl ?_
                  refine RD.opc (opv_move rfl) (fun h9 => ?_) (fun h9 => ?_)
                  · try simp only [decide_eq_true_eq, decide_eq_false_iff_not, beq_iff_eq, beq_eq_false_iff_ne, bne_iff_ne, bne_eq_false_iff_eq, Int.not_lt, Int.not_le, ne_eq, Bool.not_eq_true', Bool.not_eq_false', gt_iff_lt, ge_iff_le] at h9
                    have hge := h9
                    omega
                  · try simp only [decide_eq_true_eq, decide_eq_false_iff_not, beq_iff_eq, beq_eq_false_iff_ne, bne_iff_ne, bne_eq_false_iff_eq, Int.not_lt, Int.not_le, ne_eq, Bool.not_eq_true', Bool.not_eq_false', gt_iff_lt, ge_iff_le] at h9
                    have hlt2 := h9
                    refine RD.opgv (v' := .d (.list (encCls _))) rfl (opv_move rfl) rfl ?_
                    refine RD.opgv (v' := .d (.int _ _)) rfl (opv_move rfl) rfl ?_
                    refine RD.opgv (v' := .d (.ptr _)) rfl (opv_index_cls rfl rfl hlt) rfl ?_
                    refine RD.opgv (v' := .d (encCl _)) rfl (opv_load_pcl rfl) rfl ?_
                    refine RD.opgv (v' := .d (.list (encCls _))) rfl (opv_move rfl) rfl ?_
                    refine RD.opgv (v' := .d (.int _ _)) rfl (opv_move rfl) rfl ?_
                    refine RD.opgv (v' := .d (.ptr _)) rfl (opv_index_cls rfl rfl hj2) rfl ?_
                    refine RD.opgv (v' := .d (encCl _)) rfl (opv_load_pcl rfl) rfl ?_
                    refine RD.opgv (v' := .d (.bool _)) rfl (opv_callF (rone_fn (getB (allB (newB (C 3) ts).1) (allB (newB (C 3) ts).1)[i].head.name ((allB (newB (C 3) ts).1)[i].head.kids.length : Int))[(getB ((allB (newB (C 3) ts).1).take j) (allB (newB (C 3) ts).1)[i].head.name ((allB (newB (C 3) ts).1)[i].head.kids.length : Int)).length] (allB (newB (C 3) ts).1)[j] (hsm _ (getB_sub (List.getElem_mem hlt))) (hsm _ (List.getElem_mem hj2))) rfl rfl rfl trivial) rfl ?_
                    refine RD.opgv (v' := .d (.bool _)) rfl (opv_not rfl rfl) rfl ?_
                    refine RD.opc (opv_pick rfl rfl) (fun h10 => ?_) (fun h10 => ?_)
                    · try simp only [decide_eq_true_eq, decide_eq_false_iff_not, beq_iff_eq, beq_eq_false_iff_ne, bne_iff_ne, bne_eq_false_iff_eq, Int.not_lt, Int.not_le, ne_eq, Bool.not_eq_true', Bool.not_eq_false', gt_iff_lt, ge_iff_le] at h10
                      rw [hat, (oneB_iff _ _).2 rfl] at h10; cases h10
                    · try simp only [decide_eq_true_eq, decide_eq_false_iff_not, beq_iff_eq, beq_eq_false_iff_ne, bne_iff_ne, bne_eq_false_iff_eq, Int.not_lt, Int.not_le, ne_eq, Bool.not_eq_true', Bool.not_eq_false', gt_iff_lt, ge_iff_le] at h10
                      refine RD.nil ?_
                      refine thenQ_normal ?_
                      refine Runs.condF rfl ?_
                      refine Runs.skip ?_
                      refine thenQ_normal ?_
                      refine Runs.has [(3, .d (.bool true)), (6, .d (encOB _ _)), (9, .d (.list (encCls _))), (10, .d (.int _ _)), (11, .d (.list (encCls _))), (12, .d (.int _ _)), (13, .d (.int _ _))] ⟨rfl, rfl, rfl, rfl, rfl, rfl, rfl, trivial⟩ ?_
                      refine Runs.region ?_
                      refine RO.opv (v' := .d (.int _ _)) (opv_move rfl) rfl ?_
                      refine RO.opv (v' := .d (.int _ _)) (opv_bin rfl rfl rfl) rfl ?_
                      refine RO.opv (v' := .d (.int _ _)) (opv_assign rfl) rfl ?_
                      refine RO.nil ?_
                      refine blockQ_normal ?_
                      refine thenQ_normal ?_
                      refine Runs.has [(3, .d (.bool true)), (6, .d (encOB _ _)), (9, .d (.list (encCls _))), (10, .d (.int _ _)), (11, .d (.list (encCls _))), (12, .d (.int _ _)), (13, .d (.int _ _))] ⟨rfl, rfl, rfl, rfl, rfl, rfl, rfl, trivial⟩ ?_
                      refine Runs.region ?_
                      refine RO.opv (v' := .d (.int _ _)) (opv_move rfl) rfl ?_
                      refine RO.opv (v' := .d (.int _ _)) (opv_bin rfl rfl rfl) rfl ?_
                      refine RO.opv (v' := .d (.int _ _)) (opv_assign rfl) rfl ?_
                      refine RO.nil ?_
                      refine thenQ_normal ?_
                      refine ⟨j + 1, 0, (by rw [hK]; exact Nat.le_of_ble_eq_true rfl), ⟨rfl, rfl, rfl, rfl, rfl, trivial⟩, ⟨?_, ?_, trivial⟩, rfl, ?_, ?_⟩
                      · refine int_eq ?_; rw [getB_step hj2, if_pos hkt]; rw [wrap64 (by omega) (by have := getB_len_le (allB (newB (C 3) ts).1) (allB (newB (C 3) ts).1)[i].head.name ((allB (newB (C 3) ts).1)[i].head.kids.length : Int); omega)]; omega
                      · refine int_eq ?_; rw [wrap64 (by omega) (by omega)]; omega
                      · omega
                      · omega
                · try simp only [decide_eq_true_eq, decide_eq_false_iff_not, beq_iff_eq, beq_eq_false_iff_ne, bne_iff_ne, bne_eq_false_iff_eq, Int.not_lt, Int.not_le, ne_eq, Bool.not_eq_true', Bool.not_eq_false', gt_iff_lt, ge_iff_le] at h8
                  have hkf : hasKey (allB (newB (C 3) ts).1)[i].head.name ((allB (newB (C 3) ts).1)[i].head.kids.length : Int) (allB (newB (C 3) ts).1)[j] = false := by unfold hasKey; rw [Bool.and_eq_false_iff]; right; simp; omega
                  refine RD.nil ?_
                  refine thenQ_normal ?_
                  refine Runs.condF rfl ?_
                  refine Runs.skip ?_
                  refine blockQ_normal ?_
                  refine thenQ_normal ?_
                  refine Runs.has [(3, .d (.bool true)), (6, .d (encOB _ _)), (9, .d (.list (encCls _))), (10, .d (.int _ _)), (11, .d (.list (encCls _))), (12, .d (.int _ _)), (13, .d (.int _ _))] ⟨rfl, rfl, rfl, rfl, rfl, rfl, rfl, trivial⟩ ?_
                  refine Runs.region ?_
                  refine RO.opv (v' := .d (.int _ _)) (opv_move rfl) rfl ?_
                  refine RO.opv (v' := .d (.int _ _)) (opv_bin rfl rfl rfl) rfl ?_
                  refine RO.opv (v' := .d (.int _ _)) (opv_assign rfl) rfl ?_
                  refine RO.nil ?_
                  refine thenQ_normal ?_
                  refine ⟨j + 1, 0, (by rw [hK]; exact Nat.le_of_ble_eq_true rfl), ⟨rfl, rfl, rfl, rfl, rfl, trivial⟩, ⟨?_, ?_, trivial⟩, rfl, ?_, ?_⟩
                  · refine int_eq ?_; rw [getB_step hj2, if_neg (by rw [hkf]; simp)]; rfl
                  · refine int_eq ?_; rw [wrap64 (by omega) (by omega)]; omega
                  · omega
                  · omega
              · try simp only [decide_eq_true_eq, decide_eq_false_iff_not, beq_iff_eq, beq_eq_false_iff_ne, bne_iff_ne, bne_eq_false_iff_eq, Int.not_lt, Int.not_le, ne_eq, Bool.not_eq_true', Bool.not_eq_false', gt_iff_lt, ge_iff_le] at h7
                have hkf : hasKey (allB (newB (C 3) ts).1)[i].head.name ((allB (newB (C 3) ts).1)[i].head.kids.length : Int) (allB (newB (C 3) ts).1)[j] = false := by unfold hasKey; rw [Bool.and_eq_false_iff]; left; rw [beq_eq_false_iff_ne]; exact fun e => absurd e.symm h7
                refine RD.off rfl ?_
                refine RD.off rfl ?_
                refine RD.off rfl ?_
                refine RD.off rfl ?_
                refine RD.off rfl ?_
                refine RD.off rfl ?_
                refine RD.off rfl ?_
                refine RD.off rfl ?_
                refine RD.off rfl ?_
                refine RD.off rfl ?_
                refine RD.off rfl ?_
                refine RD.off rfl ?_
                refine RD.off rfl ?_
                refine RD.off rfl ?_
                refine RD.off rfl ?_
                refine RD.opv (v' := .d (.bool false)) (opv_pick rfl rfl) rfl ?_
                refine RD.nil ?_
                refine thenQ_normal ?_
                refine Runs.condF rfl ?_
                refine Runs.skip ?_
                refine blockQ_normal ?_
                refine thenQ_normal ?_
                refine Runs.has [(3, .d (.bool true)), (6, .d (encOB _ _)), (9, .d (.list (encCls _))), (10, .d (.int _ _)), (11, .d (.list (encCls _))), (12, .d (.int _ _)), (13, .d (.int _ _))] ⟨rfl, rfl, rfl, rfl, rfl, rfl, rfl, trivial⟩ ?_
                refine Runs.region ?_
                refine RO.opv (v' := .d (.int _ _)) (opv_move rfl) rfl ?_
                refine RO.opv (v' := .d (.int _ _)) (opv_bin rfl rfl rfl) rfl ?_
                refine RO.opv (v' := .d (.int _ _)) (opv_assign rfl) rfl ?_
                refine RO.nil ?_
                refine thenQ_normal ?_
                refine ⟨j + 1, 0, (by rw [hK]; exact Nat.le_of_ble_eq_true rfl), ⟨rfl, rfl, rfl, rfl, rfl, trivial⟩, ⟨?_, ?_, trivial⟩, rfl, ?_, ?_⟩
                · refine int_eq ?_; rw [getB_step hj2, if_neg (by rw [hkf]; simp)]; rfl
                · refine int_eq ?_; rw [wrap64 (by omega) (by omega)]; omega
                · omega
                · omega
            · try simp only [decide_eq_true_eq, decide_eq_false_iff_not, beq_iff_eq, beq_eq_false_iff_ne, bne_iff_ne, bne_eq_false_iff_eq, Int.not_lt, Int.not_le, ne_eq, Bool.not_eq_true', Bool.not_eq_false', gt_iff_lt, ge_iff_le] at h6
              have hj2 : j = (allB (newB (C 3) ts).1).length := by omega
              refine RO.nil ?_
              refine Runs.condF rfl ?_
              refine Runs.exit ?_
              refine thenQ_exit ?_
              refine thenQ_exit ?_
              refine blockQ_here ?_
              refine thenQ_normal ?_
              refine Runs.has [(3, .d (.bool true)), (6, .d (encOB _ _)), (9, .d (.list (encCls _))), (10, .d (.int _ _)), (11, .d (.list (encCls _))), (12, .d (.int _ _))] ⟨rfl, rfl, rfl, rfl, rfl, rfl, trivial⟩ ?_
              refine Runs.seq ?_
              refine Runs.drawn (by kernel_rfl) [] [false, false, false, false, false, false, false, false, false, false, false, false, false, false, false, false, false, false, false, false] [false, false, false, false, false, false, false, false, false, false, false, false, false, false, false, false, false, false, false, false] (by decide +kernel) ?_
              refine RD.opv (v' := .d (.int _ _)) (opv_move rfl) rfl ?_
              refine RD.opv (v' := .d (.list (encCls _))) (opv_move rfl) rfl ?_
              refine RD.opv (v' := .d (.int _ _)) (opv_len_cls rfl) rfl ?_
              refine RD.opv (v' := .d (.bool _)) (opv_bin rfl rfl rfl) rfl ?_
              refine RD.opc (opv_move rfl) (fun h11 => ?_) (fun h11 => ?_)
              · try simp only [decide_eq_true_eq, decide_eq_false_iff_not, beq_iff_eq, beq_eq_false_iff_ne, bne_iff_ne, bne_eq_false_iff_eq, Int.not_lt, Int.not_le, ne_eq, Bool.not_eq_true', Bool.not_eq_false', gt_iff_lt, ge_iff_le] at h11
                skip
                exact absurd (by rw [hj2, List.take_length]) h11
              · try simp only [decide_eq_true_eq, decide_eq_false_iff_not, beq_iff_eq, beq_eq_false_iff_ne, bne_iff_ne, bne_eq_false_iff_eq, Int.not_lt, Int.not_le, ne_eq, Bool.not_eq_true', Bool.not_eq_false', gt_iff_lt, ge_iff_le] at h11
                skip
                refine RD.opgv (v' := .d (.list (encCls _))) rfl (opv_move rfl) rfl ?_
                refine RD.opgv (v' := .d (.int _ _)) rfl (opv_move rfl) rfl ?_
                refine RD.opgv (v' := .d (.ptr _)) rfl (opv_index_cls rfl rfl hi2) rfl ?_
                refine RD.opgv (v' := .d (.ptr _)) rfl (opv_field_ptr rfl) rfl ?_
                refine RD.opgv (v' := .d (.ptr _)) rfl (opv_field_ptr rfl) rfl ?_
                refine RD.opgv (v' := .d (.str _)) rfl (opv_load_ptr rfl rfl) rfl ?_
                refine RD.opgv (v' := .d (.list (encCls _))) rfl (opv_move rfl) rfl ?_
                refine RD.opgv (v' := .d (.int _ _)) rfl (opv_move rfl) rfl ?_
                refine RD.opgv (v' := .d (.ptr _)) rfl (opv_index_cls rfl rfl hi2) rfl ?_
                refine RD.opgv (v' := .d (.ptr _)) rfl (opv_field_ptr rfl) rfl ?_
                refine RD.opgv (v' := .d (.ptr _)) rfl (opv_field_ptr rfl) rfl ?_
                refine RD.opgv (v' := .d (.list (encs _))) rfl (opv_load_ptr rfl rfl) rfl ?_
                refine RD.opgv (v' := .d (.int _ _)) rfl (opv_len_terms rfl) rfl ?_
                refine RD.opgv (v' := .d (.bool _)) rfl (opv_callF (known_fn _ _) rfl rfl rfl trivial) rfl ?_
                refine RD.opc (opv_pick rfl rfl) (fun h12 => ?_) (fun h12 => ?_)
                · try simp only [decide_eq_true_eq, decide_eq_false_iff_not, beq_iff_eq, beq_eq_false_iff_ne, bne_iff_ne, bne_eq_false_iff_eq, Int.not_lt, Int.not_le, ne_eq, Bool.not_eq_true', Bool.not_eq_false', gt_iff_lt, ge_iff_le] at h12
                  rcases hN with ⟨_, h0, h1, _⟩ | ⟨_, _, h1⟩
                  · have hm := List.getElem_mem hi2
                    have hee : (allB (newB (C 3) ts).1) = parsesT (C 3) ts := by rw [h1]; rfl
                    obtain ⟨t, ht, hte⟩ := List.mem_map.1 (Eq.mp (congrArg (fun l => (allB (newB (C 3) ts).1)[i] ∈ l) hee) hm)
                    have hnk := parse_not_known (h0 t ht)
                    rw [hte] at hnk
                    rw [hnk] at h12; cases h12
                  · exact absurd he h1
                · try simp only [decide_eq_true_eq, decide_eq_false_iff_not, beq_iff_eq, beq_eq_false_iff_ne, bne_iff_ne, bne_eq_false_iff_eq, Int.not_lt, Int.not_le, ne_eq, Bool.not_eq_true', Bool.not_eq_false', gt_iff_lt, ge_iff_le] at h12
                  refine RD.nil ?_
                  refine thenQ_normal ?_
                  refine Runs.condF rfl ?_
                  refine Runs.skip ?_
                  refine blockQ_normal ?_
                  refine thenQ_normal ?_
                  refine Runs.has [(3, .d (.bool true)), (6, .d (encOB _ _)), (9, .d (.list (encCls _))), (10, .d (.int _ _))] ⟨rfl, rfl, rfl, rfl, trivial⟩ ?_
                  refine Runs.region ?_
                  refine RO.opv (v' := .d (.int _ _)) (opv_move rfl) rfl ?_
                  refine RO.opv (v' := .d (.int _ _)) (opv_bin rfl rfl rfl) rfl ?_
                  refine RO.opv (v' := .d (.int _ _)) (opv_assign rfl) rfl ?_
                  refine RO.nil ?_
                  refine thenQ_normal ?_
                  refine ⟨i + 1, 0, (by rw [hK]; exact Nat.le_of_ble_eq_true rfl), ⟨rfl, rfl, rfl, trivial⟩, ⟨?_, trivial⟩, rfl, ?_, ?_⟩
                  · refine int_eq ?_; rw [wrap64 (by omega) (by omega)]; omega
                  · omega
                  · omega
          · try simp only [decide_eq_true_eq, decide_eq_false_iff_not, beq_iff_eq, beq_eq_false_iff_ne, bne_iff_ne, bne_eq_false_iff_eq, Int.not_lt, Int.not_le, ne_eq, Bool.not_eq_true', Bool.not_eq_false', gt_iff_lt, ge_iff_le] at h5
            have hi2 : i = (allB (newB (C 3) ts).1).length := by omega
            refine RO.nil ?_
            refine Runs.condF rfl ?_
            refine Runs.exit ?_
            refine thenQ_exit ?_
            refine thenQ_exit ?_
            refine blockQ_here ?_
            refine thenQ_normal ?_
            refine Runs.has [(3, .d (.bool true))] ⟨rfl, trivial⟩ ?_
            refine Runs.rseq ?_
            refine RO.opv (v' := .d (.bool true)) (opv_move rfl) rfl ?_
            refine RO.opv (v' := .d (.bool true)) (opv_assign rfl) rfl ?_
            refine RO.nil ?_
            refine Runs.ret ?_
            refine EndQ.tmp (.inr rfl) rfl rfl 0 (by exact Nat.le_refl _) (by exact Nat.zero_le _) trivial ⟨?_, rfl⟩
            rfl
end Go.Proofs.Ytmokkjmoneablaa.AM
