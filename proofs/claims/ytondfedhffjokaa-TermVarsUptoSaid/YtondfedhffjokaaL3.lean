import Derived.Test.YtondfedhffjokaaL0
import Derived.Test.YtondfedhffjokaaP3
namespace Go.Proofs.Ytondfedhffjokaa.AM
open Go
set_option linter.unusedVariables false
set_option linter.unusedSimpArgs false
theorem termVars_fn (a b : Term) (g1 : a.bulk ≤ 2 ^ 20) (_g1' : a.fits) (g2 : b.bulk ≤ 2 ^ 20) (_g2' : b.fits) : Fn Try.prog 4 [.d (enc a), .d (enc b)] [] (.d (.bool true)) [] := by
  have hva := vars_size a
  have hvb := vars_size b
  have hsa := a.size_bulk
  have hsb := b.size_bulk
  refine Does.run Try.func4 rfl Try.ntmps4 rfl fun K hK => ?_
  refine Runs.rseq ?_
  refine RO.opn (v' := .ref 0 0) (O' := [_]) (opv_box_term rfl) rfl rfl ?_
  refine RO.opn (v' := .ref 1 0) (O' := [_, _]) (opv_box_term rfl) rfl rfl ?_
  refine RO.opv (v' := .d (.bool false)) (opv_assign rfl) rfl ?_
  refine RO.nil ?_
  refine Runs.has [(2, .ref 0 0), (3, .ref 1 0), (4, .d (.bool false))] ⟨rfl, rfl, rfl, trivial⟩ ?_
  refine Runs.rseq ?_
  refine RO.opv (v' := .d (.bool true)) (opv_callF (shown_fn) rfl rfl rfl trivial) rfl ?_
  refine RO.opv (v' := .d (.bool true)) (opv_assign rfl) rfl ?_
  refine RO.nil ?_
  refine Runs.has [(2, .ref 0 0), (3, .ref 1 0), (4, .d (.bool false)), (5, .d (.bool true))] ⟨rfl, rfl, rfl, rfl, trivial⟩ ?_
  refine Runs.seq ?_
  refine Runs.rseq ?_
  refine RO.opv (v' := .d (enc _)) (opv_load_term rfl rfl rfl) rfl ?_
  refine RO.opv (v' := .d (.bool _)) (opv_callF (few_fn a (by omega)) rfl rfl rfl trivial) rfl ?_
  refine RO.opv (v' := .d (.bool _)) (opv_not rfl rfl) rfl ?_
  refine RO.opc (opv_move rfl) (fun h1 => ?_) (fun h1 => ?_)
  · try simp only [decide_eq_true_eq, decide_eq_false_iff_not, beq_iff_eq, beq_eq_false_iff_ne, bne_iff_ne, bne_eq_false_iff_eq, Int.not_lt, Int.not_le, ne_eq, Bool.not_eq_true', Bool.not_eq_false', gt_iff_lt, ge_iff_le] at h1
    refine RO.off rfl ?_
    refine RO.off rfl ?_
    refine RO.off rfl ?_
    refine RO.opv (v' := .d (.bool true)) (opv_pick rfl rfl) rfl ?_
    refine RO.nil ?_
    refine Runs.condT rfl ?_
    refine Runs.has [(2, .ref 0 0), (3, .ref 1 0), (4, .d (.bool false)), (5, .d (.bool true))] ⟨rfl, rfl, rfl, rfl, trivial⟩ ?_
    refine Runs.rseq ?_
    refine RO.opv (v' := .d (.bool true)) (opv_move rfl) rfl ?_
    refine RO.opv (v' := .d (.bool true)) (opv_assign rfl) rfl ?_
    refine RO.nil ?_
    refine Runs.ret ?_
    refine thenQ_ret ?_
    refine EndQ.tmp (.inr rfl) rfl rfl 0 (by exact Nat.le_refl _) (by exact Nat.zero_le _) trivial ⟨?_, rfl⟩
    rfl
  · try simp only [decide_eq_true_eq, decide_eq_false_iff_not, beq_iff_eq, beq_eq_false_iff_ne, bne_iff_ne, bne_eq_false_iff_eq, Int.not_lt, Int.not_le, ne_eq, Bool.not_eq_true', Bool.not_eq_false', gt_iff_lt, ge_iff_le] at h1
    refine RO.opgv (v' := .d (enc _)) rfl (opv_load_term rfl rfl rfl) rfl ?_
    refine RO.opgv (v' := .d (.bool _)) rfl (opv_callF (few_fn b (by omega)) rfl rfl rfl trivial) rfl ?_
    refine RO.opgv (v' := .d (.bool _)) rfl (opv_not rfl rfl) rfl ?_
    refine RO.opc (opv_pick rfl rfl) (fun h2 => ?_) (fun h2 => ?_)
    · try simp only [decide_eq_true_eq, decide_eq_false_iff_not, beq_iff_eq, beq_eq_false_iff_ne, bne_iff_ne, bne_eq_false_iff_eq, Int.not_lt, Int.not_le, ne_eq, Bool.not_eq_true', Bool.not_eq_false', gt_iff_lt, ge_iff_le] at h2
      refine RO.nil ?_
      refine Runs.condT rfl ?_
      refine Runs.has [(2, .ref 0 0), (3, .ref 1 0), (4, .d (.bool false)), (5, .d (.bool true))] ⟨rfl, rfl, rfl, rfl, trivial⟩ ?_
      refine Runs.rseq ?_
      refine RO.opv (v' := .d (.bool true)) (opv_move rfl) rfl ?_
      refine RO.opv (v' := .d (.bool true)) (opv_assign rfl) rfl ?_
      refine RO.nil ?_
      refine Runs.ret ?_
      refine thenQ_ret ?_
      refine EndQ.tmp (.inr rfl) rfl rfl 0 (by exact Nat.le_refl _) (by exact Nat.zero_le _) trivial ⟨?_, rfl⟩
      rfl
    · try simp only [decide_eq_true_eq, decide_eq_false_iff_not, beq_iff_eq, beq_eq_false_iff_ne, bne_iff_ne, bne_eq_false_iff_eq, Int.not_lt, Int.not_le, ne_eq, Bool.not_eq_true', Bool.not_eq_false', gt_iff_lt, ge_iff_le] at h2
      refine RO.nil ?_
      refine Runs.condF rfl ?_
      refine Runs.skip ?_
      refine thenQ_normal ?_
      refine Runs.has [(2, .ref 0 0), (3, .ref 1 0), (4, .d (.bool false)), (5, .d (.bool true))] ⟨rfl, rfl, rfl, rfl, trivial⟩ ?_
      refine Runs.rseq ?_
      refine RO.opv (v' := .d (enc _)) (opv_load_term rfl rfl rfl) rfl ?_
      refine RO.opv (v' := .d (.list (ints _))) (opv_callF (vars_fn a (by omega)) rfl rfl rfl trivial) rfl ?_
      refine RO.opv (v' := .d (.list (ints _))) (opv_assign rfl) rfl ?_
      refine RO.nil ?_
      refine Runs.has [(2, .ref 0 0), (3, .ref 1 0), (4, .d (.bool false)), (5, .d (.bool true)), (6, .d (.list (ints _)))] ⟨rfl, rfl, rfl, rfl, rfl, trivial⟩ ?_
      refine Runs.rseq ?_
      refine RO.opv (v' := .d (enc _)) (opv_load_term rfl rfl rfl) rfl ?_
      refine RO.opv (v' := .d (.list (ints _))) (opv_callF (vars_fn b (by omega)) rfl rfl rfl trivial) rfl ?_
      refine RO.opv (v' := .d (.list (ints _))) (opv_assign rfl) rfl ?_
      refine RO.nil ?_
      refine Runs.has [(2, .ref 0 0), (3, .ref 1 0), (4, .d (.bool false)), (5, .d (.bool true)), (6, .d (.list (ints _))), (7, .d (.list (ints _)))] ⟨rfl, rfl, rfl, rfl, rfl, rfl, trivial⟩ ?_
      refine Runs.rseq ?_
      refine RO.opv (v' := .nil0) (opv_buildSlice0 rfl) rfl ?_
      refine RO.opv (v' := .d (.list (ints _))) (opv_move rfl) rfl ?_
      refine RO.opn (v' := .own 2 _) (O' := [_, _, _]) (opv_append_ints0 rfl rfl (by omega)) rfl rfl ?_
      refine RO.opv (v' := .own 2 _) (opv_assign rfl) rfl ?_
      refine RO.nil ?_
      refine Runs.has [(2, .ref 0 0), (3, .ref 1 0), (4, .d (.bool false)), (5, .d (.bool true)), (6, .d (.list (ints _))), (7, .d (.list (ints _))), (8, .own 2 _)] ⟨rfl, rfl, rfl, rfl, rfl, rfl, rfl, trivial⟩ ?_
      refine Runs.seq ?_
      refine Runs.rseq ?_
      refine RO.opv (v' := .d (.int _ _)) (opv_assign rfl) rfl ?_
      refine RO.nil ?_
      refine Runs.block ?_
      refine Runs.loopC (X := (Nat × List Int × Nat)) (fun x => x.1 ≤ b.vars.length ∧ x.2.1 = plus a.vars (b.vars.take x.1)) (fun x => b.vars.length - x.1) [(2, .ref 0 0), (3, .ref 1 0), (4, .d (.bool false)), (5, .d (.bool true)), (6, .d (.list (ints _))), (7, .d (.list (ints _)))] (fun x => [(8, .own 2 x.2.2), (9, .d (.int .i64 (x.1 : Nat)))]) [_, _] (fun x => [.buf 3 1 (ints x.2.1) x.2.2]) (((0 : Nat), a.vars, (1 : Nat))) ⟨rfl, rfl, rfl, rfl, rfl, rfl, trivial⟩ ⟨rfl, rfl, trivial⟩ rfl ⟨Nat.zero_le _, by simp [plus]⟩ fun x hi => ?_
      refine Runs.seq ?_
      refine Runs.rseq ?_
      refine RO.opv (v' := .d (.int _ _)) (opv_move rfl) rfl ?_
      refine RO.opv (v' := .d (.list (ints _))) (opv_move rfl) rfl ?_
      refine RO.opv (v' := .d (.int _ _)) (opv_len_ints rfl) rfl ?_
      refine RO.opc (opv_bin rfl rfl rfl) (fun h3 => ?_) (fun h3 => ?_)
      · try simp only [decide_eq_true_eq, decide_eq_false_iff_not, beq_iff_eq, beq_eq_false_iff_ne, bne_iff_ne, bne_eq_false_iff_eq, Int.not_lt, Int.not_le, ne_eq, Bool.not_eq_true', Bool.not_eq_false', gt_iff_lt, ge_iff_le] at h3
        have hk : x.1 < b.vars.length := by omega
        skip
        refine RO.nil ?_
        refine Runs.condT rfl ?_
        refine Runs.skip ?_
        refine thenQ_normal ?_
        refine Runs.has [(2, .ref 0 0), (3, .ref 1 0), (4, .d (.bool false)), (5, .d (.bool true)), (6, .d (.list (ints _))), (7, .d (.list (ints _))), (8, .own 2 _), (9, .d (.int _ _)), (28, .d (.int _ _)), (29, .d (.list (ints _))), (30, .d (.int _ _)), (31, .d (.bool true))] ⟨rfl, rfl, rfl, rfl, rfl, rfl, rfl, rfl, rfl, rfl, rfl, rfl, trivial⟩ ?_
        refine Runs.seq ?_
        refine Runs.block ?_
        refine Runs.has [(2, .ref 0 0), (3, .ref 1 0), (4, .d (.bool false)), (5, .d (.bool true)), (6, .d (.list (ints _))), (7, .d (.list (ints _))), (8, .own 2 _), (9, .d (.int _ _)), (28, .d (.int _ _)), (29, .d (.list (ints _))), (30, .d (.int _ _)), (31, .d (.bool true))] ⟨rfl, rfl, rfl, rfl, rfl, rfl, rfl, rfl, rfl, rfl, rfl, rfl, trivial⟩ ?_
        refine Runs.rseq ?_
        refine RO.opv (v' := .d (.list (ints _))) (opv_move rfl) rfl ?_
        refine RO.opv (v' := .d (.list (ints _))) (opv_move rfl) rfl ?_
        refine RO.opv (v' := .d (.int _ _)) (opv_move rfl) rfl ?_
        refine RO.opv (v' := .d (.ptr _)) (opv_index_ints rfl rfl (by omega)) rfl ?_
        refine RO.opv (v' := .d (.int _ _)) (opv_load_ptr rfl rfl) rfl ?_
        refine RO.opv (v' := .d (.bool _)) (opv_callF (has_fn a.vars b.vars[x.1] (by omega)) rfl rfl rfl trivial) rfl ?_
        refine RO.opc (opv_not rfl rfl) (fun h4 => ?_) (fun h4 => ?_)
        · try simp only [decide_eq_true_eq, decide_eq_false_iff_not, beq_iff_eq, beq_eq_false_iff_ne, bne_iff_ne, bne_eq_false_iff_eq, Int.not_lt, Int.not_le, ne_eq, Bool.not_eq_true', Bool.not_eq_false', gt_iff_lt, ge_iff_le] at h4
          have hm := h4
          refine RO.nil ?_
          refine Runs.condT rfl ?_
          refine Runs.has [(2, .ref 0 0), (3, .ref 1 0), (4, .d (.bool false)), (5, .d (.bool true)), (6, .d (.list (ints _))), (7, .d (.list (ints _))), (8, .own 2 _), (9, .d (.int _ _)), (28, .d (.int _ _)), (29, .d (.list (ints _))), (30, .d (.int _ _)), (31, .d (.bool true)), (34, .d (.list (ints _))), (35, .d (.list (ints _))), (36, .d (.int _ _)), (37, .d (.ptr _)), (38, .d (.int _ _)), (39, .d (.bool _)), (40, .d (.bool true))] ⟨rfl, rfl, rfl, rfl, rfl, rfl, rfl, rfl, rfl, rfl, rfl, rfl, rfl, rfl, rfl, rfl, rfl, rfl, rfl, trivial⟩ ?_
          refine Runs.region ?_
          refine RO.opv (v' := .own 2 _) (opv_move rfl) rfl ?_
          refine RO.opv (v' := .d (.list (ints _))) (opv_move rfl) rfl ?_
          refine RO.opv (v' := .d (.int _ _)) (opv_move rfl) rfl ?_
          refine RO.opv (v' := .d (.ptr _)) (opv_index_ints rfl rfl (by omega)) rfl ?_
          refine RO.opv (v' := .d (.int _ _)) (opv_load_ptr rfl rfl) rfl ?_
          refine RO.opv (v' := .d (.list (ints _))) (opv_bs_int1 rfl ) rfl ?_
          refine RO.opn (v' := .own 2 _) (O' := [_, _, _]) (opv_append_ints rfl rfl rfl (by have := plus_len a.vars (b.vars.take x.1); rw [← hi.2] at this; simp at this ⊢; omega)) rfl rfl ?_
          refine RO.opv (v' := .own 2 _) (opv_assign rfl) rfl ?_
          refine RO.nil ?_
          refine blockQ_normal ?_
          refine thenQ_normal ?_
          refine Runs.has [(2, .ref 0 0), (3, .ref 1 0), (4, .d (.bool false)), (5, .d (.bool true)), (6, .d (.list (ints _))), (7, .d (.list (ints _))), (8, .own 2 _), (9, .d (.int _ _)), (28, .d (.int _ _)), (29, .d (.list (ints _))), (30, .d (.int _ _)), (31, .d (.bool true)), (34, .d (.list (ints _))), (35, .d (.list (ints _))), (36, .d (.int _ _)), (37, .d (.ptr _)), (38, .d (.int _ _)), (39, .d (.bool _)), (40, .d (.bool true)), (41, .own 2 _), (42, .d (.list (ints _))), (43, .d (.int _ _)), (44, .d (.ptr _)), (45, .d (.int _ _)), (46, .d (.list (ints _))), (47, .own 2 _)] ⟨rfl, rfl, rfl, rfl, rfl, rfl, rfl, rfl, rfl, rfl, rfl, rfl, rfl, rfl, rfl, rfl, rfl, rfl, rfl, rfl, rfl, rfl, rfl, rfl, rfl, rfl, trivial⟩ ?_
          refine Runs.region ?_
          refine RO.opv (v' := .d (.int _ _)) (opv_move rfl) rfl ?_
          refine RO.opv (v' := .d (.int _ _)) (opv_bin rfl rfl rfl) rfl ?_
          refine RO.opv (v' := .d (.int _ _)) (opv_assign rfl) rfl ?_
          refine RO.nil ?_
          refine thenQ_normal ?_
          refine ⟨(x.1 + 1, x.2.1 ++ [b.vars[x.1]], x.2.2 + 1), 3, (by rw [hK]; exact Nat.le_of_ble_eq_true rfl), ⟨rfl, rfl, rfl, rfl, rfl, rfl, trivial⟩, ⟨?_, ?_, trivial⟩, rfl, ?_, ?_⟩
          · rfl
          · refine int_eq ?_; rw [wrap64 (by omega) (by omega)]; omega
          · refine ⟨by show x.1 + 1 ≤ _; omega, ?_⟩
            show x.2.1 ++ [b.vars[x.1]] = _
            rw [plus_take hk, if_neg (by simpa using hm), hi.2]
          · show b.vars.length - (x.1 + 1) < _; omega
        · try simp only [decide_eq_true_eq, decide_eq_false_iff_not, beq_iff_eq, beq_eq_false_iff_ne, bne_iff_ne, bne_eq_false_iff_eq, Int.not_lt, Int.not_le, ne_eq, Bool.not_eq_true', Bool.not_eq_false', gt_iff_lt, ge_iff_le] at h4
          have hm := h4
          refine RO.nil ?_
          refine Runs.condF rfl ?_
          refine Runs.skip ?_
          refine blockQ_normal ?_
          refine thenQ_normal ?_
          refine Runs.has [(2, .ref 0 0), (3, .ref 1 0), (4, .d (.bool false)), (5, .d (.bool true)), (6, .d (.list (ints _))), (7, .d (.list (ints _))), (8, .own 2 _), (9, .d (.int _ _)), (28, .d (.int _ _)), (29, .d (.list (ints _))), (30, .d (.int _ _)), (31, .d (.bool true)), (34, .d (.list (ints _))), (35, .d (.list (ints _))), (36, .d (.int _ _)), (37, .d (.ptr _)), (38, .d (.int _ _)), (39, .d (.bool _)), (40, .d (.bool false))] ⟨rfl, rfl, rfl, rfl, rfl, rfl, rfl, rfl, rfl, rfl, rfl, rfl, rfl, rfl, rfl, rfl, rfl, rfl, rfl, trivial⟩ ?_
          refine Runs.region ?_
          refine RO.opv (v' := .d (.int _ _)) (opv_move rfl) rfl ?_
          refine RO.opv (v' := .d (.int _ _)) (opv_bin rfl rfl rfl) rfl ?_
          refine RO.opv (v' := .d (.int _ _)) (opv_assign rfl) rfl ?_
          refine RO.nil ?_
          refine thenQ_normal ?_
          refine ⟨(x.1 + 1, x.2.1, x.2.2), 3, (by rw [hK]; exact Nat.le_of_ble_eq_true rfl), ⟨rfl, rfl, rfl, rfl, rfl, rfl, trivial⟩, ⟨?_, ?_, trivial⟩, rfl, ?_, ?_⟩
          · rfl
          · refine int_eq ?_; rw [wrap64 (by omega) (by omega)]; omega
          · refine ⟨by show x.1 + 1 ≤ _; omega, ?_⟩
            show x.2.1 = _
            rw [plus_take hk, if_pos (by simpa using hm), hi.2]
          · show b.vars.length - (x.1 + 1) < _; omega
      · try simp only [decide_eq_true_eq, decide_eq_false_iff_not, beq_iff_eq, beq_eq_false_iff_ne, bne_iff_ne, bne_eq_false_iff_eq, Int.not_lt, Int.not_le, ne_eq, Bool.not_eq_true', Bool.not_eq_false', gt_iff_lt, ge_iff_le] at h3
        have hk : x.1 = b.vars.length := by omega
        have hw := hi.2; rw [hk, List.take_length] at hw
        refine RO.nil ?_
        refine Runs.condF rfl ?_
        refine Runs.exit ?_
        refine thenQ_exit ?_
        refine thenQ_exit ?_
        refine blockQ_here ?_
        refine thenQ_normal ?_
        refine Runs.has [(2, .ref 0 0), (3, .ref 1 0), (4, .d (.bool false)), (5, .d (.bool true)), (6, .d (.list (ints _))), (8, .own 2 _)] ⟨rfl, rfl, rfl, rfl, rfl, rfl, trivial⟩ ?_
        refine Runs.seq ?_
        refine Runs.rseq ?_
        refine RO.opv (v' := .d (.int _ _)) (opv_assign rfl) rfl ?_
        refine RO.nil ?_
        refine Runs.block ?_
        refine Runs.loopC (X := Nat) (fun i => i ≤ a.vars.length) (fun i => a.vars.length - i) [(2, .ref 0 0), (3, .ref 1 0), (5, .d (.bool true)), (6, .d (.list (ints _))), (8, .own 2 _)] (fun i => [(10, .d (.int .i64 (i : Nat)))]) [_, _, _] (fun i => []) (0) ⟨rfl, rfl, rfl, rfl, rfl, trivial⟩ ⟨rfl, trivial⟩ rfl (by omega) fun i hi => ?_
        refine Runs.seq ?_
        refine Runs.rseq ?_
        refine RO.opv (v' := .d (.int _ _)) (opv_move rfl) rfl ?_
        refine RO.opv (v' := .d (.list (ints _))) (opv_move rfl) rfl ?_
        refine RO.opv (v' := .d (.int _ _)) (opv_len_ints rfl) rfl ?_
        refine RO.opc (opv_bin rfl rfl rfl) (fun h5 => ?_) (fun h5 => ?_)
        · try simp only [decide_eq_true_eq, decide_eq_false_iff_not, beq_iff_eq, beq_eq_false_iff_ne, bne_iff_ne, bne_eq_false_iff_eq, Int.not_lt, Int.not_le, ne_eq, Bool.not_eq_true', Bool.not_eq_false', gt_iff_lt, ge_iff_le] at h5
          have hk : i < a.vars.length := by omega
          refine RO.nil ?_
          refine Runs.condT rfl ?_
          refine Runs.skip ?_
          refine thenQ_normal ?_
          refine Runs.seq ?_
          refine Runs.block ?_
          refine Runs.seq ?_
          refine Runs.drawn (by kernel_rfl) [false, false, false, false, false, false, false, false] (by decide +kernel) ?_
          refine RD.opv (v' := .d (.list (ints _))) (opv_move rfl) rfl ?_
          refine RD.opv (v' := .d (.int _ _)) (opv_move rfl) rfl ?_
          refine RD.opv (v' := .d (.list (ints _))) (opv_slice_ints (l := 0) (h := i) rfl rfl ⟨_, rfl⟩ (Nat.zero_le _) (by omega)) rfl ?_
          refine RD.opv (v' := .d (.list (ints _))) (opv_move rfl) rfl ?_
          refine RD.opv (v' := .d (.int _ _)) (opv_move rfl) rfl ?_
          refine RD.opv (v' := .d (.ptr _)) (opv_index_ints rfl rfl (by omega)) rfl ?_
          refine RD.opv (v' := .d (.int _ _)) (opv_load_ptr rfl rfl) rfl ?_
          refine RD.opc (opv_callF (has_fn (a.vars.take i) a.vars[i] (by simp; omega)) rfl rfl rfl trivial) (fun h6 => ?_) (fun h6 => ?_)
          · try simp only [decide_eq_true_eq, decide_eq_false_iff_not, beq_iff_eq, beq_eq_false_iff_ne, bne_iff_ne, bne_eq_false_iff_eq, Int.not_lt, Int.not_le, ne_eq, Bool.not_eq_true', Bool.not_eq_false', gt_iff_lt, ge_iff_le] at h6
            exact absurd h6 (nodup_take (vars_nodup a) hk)
          · try simp only [decide_eq_true_eq, decide_eq_false_iff_not, beq_iff_eq, beq_eq_false_iff_ne, bne_iff_ne, bne_eq_false_iff_eq, Int.not_lt, Int.not_le, ne_eq, Bool.not_eq_true', Bool.not_eq_false', gt_iff_lt, ge_iff_le] at h6
            refine RD.nil ?_
            refine thenQ_normal ?_
            refine Runs.condF rfl ?_
            refine Runs.skip ?_
            refine blockQ_normal ?_
            refine thenQ_normal ?_
            refine Runs.has [(2, .ref 0 0), (3, .ref 1 0), (5, .d (.bool true)), (6, .d (.list (ints _))), (8, .own 2 _), (10, .d (.int _ _)), (48, .d (.int _ _)), (49, .d (.list (ints _))), (50, .d (.int _ _)), (51, .d (.bool true)), (54, .d (.list (ints _))), (55, .d (.int _ _)), (56, .d (.list (ints _))), (57, .d (.list (ints _))), (58, .d (.int _ _)), (59, .d (.ptr _)), (60, .d (.int _ _)), (61, .d (.bool false))] ⟨rfl, rfl, rfl, rfl, rfl, rfl, rfl, rfl, rfl, rfl, rfl, rfl, rfl, rfl, rfl, rfl, rfl, rfl, trivial⟩ ?_
            refine Runs.region ?_
            refine RO.opv (v' := .d (.int _ _)) (opv_move rfl) rfl ?_
            refine RO.opv (v' := .d (.int _ _)) (opv_bin rfl rfl rfl) rfl ?_
            refine RO.opv (v' := .d (.int _ _)) (opv_assign rfl) rfl ?_
            refine RO.nil ?_
            refine thenQ_normal ?_
            refine ⟨i+1, 3, (by rw [hK]; exact Nat.le_of_ble_eq_true rfl), ⟨rfl, rfl, rfl, rfl, rfl, trivial⟩, ⟨?_, trivial⟩, rfl, ?_, ?_⟩
            · refine int_eq ?_; rw [wrap64 (by omega) (by omega)]; omega
            · omega
            · omega
        · try simp only [decide_eq_true_eq, decide_eq_false_iff_not, beq_iff_eq, beq_eq_false_iff_ne, bne_iff_ne, bne_eq_false_iff_eq, Int.not_lt, Int.not_le, ne_eq, Bool.not_eq_true', Bool.not_eq_false', gt_iff_lt, ge_iff_le] at h5
          have hk : i = a.vars.length := by omega
          refine RO.nil ?_
          refine Runs.condF rfl ?_
          refine Runs.exit ?_
          refine thenQ_exit ?_
          refine thenQ_exit ?_
          refine blockQ_here ?_
          refine thenQ_normal ?_
          refine Runs.has [(2, .ref 0 0), (3, .ref 1 0), (5, .d (.bool true)), (8, .own 2 _)] ⟨rfl, rfl, rfl, rfl, trivial⟩ ?_
          refine Runs.rseq ?_
          refine RO.opv (v' := .d (.bool true)) (opv_move rfl) rfl ?_
          refine RO.opv (v' := .d (.bool true)) (opv_move rfl) rfl ?_
          refine RO.opgv (v' := .d (enc _)) rfl (opv_load_term rfl rfl rfl) rfl ?_
          refine RO.opgv (v' := .d (enc _)) rfl (opv_load_term rfl rfl rfl) rfl ?_
          refine RO.opgv (v' := .d (.list (encs _))) rfl (opv_bs_term2 rfl rfl ) rfl ?_
          refine RO.opgv (v' := .d (enc _)) rfl (opv_callF (make_fn _ [a, b] (Nat.le_of_ble_eq_true rfl)) rfl rfl rfl trivial) rfl ?_
          refine RO.opgv (v' := .d (.list (ints _))) rfl (opv_callF (vars_fn (.node 3 0 ⟨#[102]⟩ [a, b]) (by simp only [Term.bulk, bulks]; show 1 + _ + 1 ≤ _; omega)) rfl rfl rfl trivial) rfl ?_
          refine RO.opgv (v' := .own 2 _) rfl (opv_move rfl) rfl ?_
          refine RO.opgv (v' := .d (.bool _)) rfl (opv_callB (ints_fn _ x.2.1 (by rw [vars_pair]; have := plus_len a.vars b.vars; omega) (by rw [hw]; have := plus_len a.vars b.vars; omega)) rfl ⟨.inl rfl, .inr (.inr ⟨_, _, _, _, _, rfl, rfl, rfl⟩), trivial⟩ rfl rfl) rfl ?_
          refine RO.opv (v' := .d (.bool _)) (opv_pick rfl rfl) rfl ?_
          refine RO.opv (v' := .d (.bool _)) (opv_assign rfl) rfl ?_
          refine RO.nil ?_
          refine Runs.ret ?_
          refine EndQ.tmp (.inr rfl) rfl rfl 0 (by exact Nat.le_refl _) (by exact Nat.zero_le _) trivial ⟨?_, rfl⟩
          refine bool_eq ?_; rw [vars_pair, hw]; simp
end Go.Proofs.Ytondfedhffjokaa.AM
