import Derived.Test.YtmokkjmoneablaaL0
namespace Go.Proofs.Ytmokkjmoneablaa.AM
open Go
set_option linter.unusedVariables false
set_option linter.unusedSimpArgs false
theorem dataLevels_fn (a b : List Term) (m : Int) (g1 : bulks a ≤ 2 ^ 20) (_g1' : fitss a) (g2 : bulks b ≤ 2 ^ 20) (_g2' : fitss b) (g4 : 0 ≤ m) (g4' : m ≤ 255) : Fn Try.prog 8 [.d (.list (encs a)), .d (.list (encs b)), .d (.int .u8 m)] [] (.d (.bool true)) [] := by
  have hk : 3 < 16 := by decide
  have hLa := bulks_len a
  have hLb := bulks_len b
  have hab := bulks_app a b
  obtain ⟨x, x0⟩ : ∃ x : Int, m.tmod 4 = x := ⟨_, rfl⟩
  have x1 : 0 ≤ x ∧ x ≤ ((3 : Nat) : Int) := by rw [Int.tmod_eq_emod_of_nonneg g4] at x0; omega
  have hO := newB_atom hk x1.1 x1.2
  have hA := newB_cases (C 3) a
  have hB := newB_cases (C 3) b
  have hb1 : bulks [(Term.node 3 0 ncol [.node 2 x ⟨#[]⟩ [], .node 3 0 ⟨#[112]⟩ []])] ≤ 2 ^ 20 := by show 2 + ((0 + 0 + 1) + ((1 + 0 + 1) + 0)) + 1 + 0 ≤ _; omega
  refine Does.run Try.func8 rfl Try.ntmps8 rfl fun K hK => ?_
  refine Runs.rseq ?_
  refine RO.opv (v' := .d (.bool false)) (opv_assign rfl) rfl ?_
  refine RO.nil ?_
  refine Runs.rseq ?_
  refine RO.opv (v' := .d (.bool true)) (opv_callF (shown_fn) rfl rfl rfl trivial) rfl ?_
  refine RO.opv (v' := .d (.bool true)) (opv_assign rfl) rfl ?_
  refine RO.nil ?_
  refine Runs.has [(0, .d (.list (encs _))), (1, .d (.list (encs _))), (2, .d (.int _ _)), (6, .d (.bool false)), (7, .d (.bool true))] ⟨rfl, rfl, rfl, rfl, rfl, trivial⟩ ?_
  refine Runs.rseq ?_
  refine RO.opv (v' := .d (.list (encPs _))) (opv_callF (chainp_fn 3 (by decide)) rfl rfl rfl trivial) rfl ?_
  refine RO.opv (opv_callF (lnewC_fn 3 (by decide)) rfl rfl rfl ⟨trivial, trivial, trivial⟩) rfl ?_
  refine RO.opv (opv_move rfl) rfl ?_
  refine RO.opv (v' := .d (encL _)) (opv_extract rfl rfl) rfl ?_
  refine RO.opv (v' := .d (.int _ _)) (opv_extract rfl rfl) rfl ?_
  refine RO.opv (v' := .d (encL _)) (opv_assign rfl) rfl ?_
  refine RO.opv (v' := .d (.int _ _)) (opv_assign rfl) rfl ?_
  refine RO.nil ?_
  refine Runs.has [(0, .d (.list (encs _))), (1, .d (.list (encs _))), (2, .d (.int _ _)), (6, .d (.bool false)), (7, .d (.bool true)), (8, .d (encL _))] ⟨rfl, rfl, rfl, rfl, rfl, rfl, trivial⟩ ?_
  refine Runs.seq ?_
  refine Runs.rseq ?_
  refine RO.opv (v' := .d (encL _)) (opv_move rfl) rfl ?_
  refine RO.opv (v' := .d (.bool false)) (opv_eqnil rfl rfl rfl) rfl ?_
  refine RO.opv (v' := .d (.bool false)) (opv_move rfl) rfl ?_
  refine RO.opgv (v' := .d (.list (encs _))) rfl (opv_move rfl) rfl ?_
  refine RO.opgv (v' := .d (.bool _)) rfl (opv_callF (few_fn a (by omega)) rfl rfl rfl trivial) rfl ?_
  refine RO.opgv (v' := .d (.bool _)) rfl (opv_not rfl rfl) rfl ?_
  refine RO.opv (v' := .d (.bool _)) (opv_pick rfl rfl) rfl ?_
  refine RO.opc (opv_move rfl) (fun h1 => ?_) (fun h1 => ?_)
  · try simp only [decide_eq_true_eq, decide_eq_false_iff_not, beq_iff_eq, beq_eq_false_iff_ne, bne_iff_ne, bne_eq_false_iff_eq, Int.not_lt, Int.not_le, ne_eq, Bool.not_eq_true', Bool.not_eq_false', gt_iff_lt, ge_iff_le] at h1
    refine RO.off rfl ?_
    refine RO.off rfl ?_
    refine RO.off rfl ?_
    refine RO.opv (v' := .d (.bool true)) (opv_pick rfl rfl) rfl ?_
    refine RO.opv (v' := .d (.bool true)) (opv_move rfl) rfl ?_
    refine RO.off rfl ?_
    refine RO.off rfl ?_
    refine RO.off rfl ?_
    refine RO.off rfl ?_
    refine RO.off rfl ?_
    refine RO.off rfl ?_
    refine RO.opv (v' := .d (.bool true)) (opv_pick rfl rfl) rfl ?_
    refine RO.nil ?_
    refine Runs.condT rfl ?_
    refine Runs.has [(0, .d (.list (encs _))), (1, .d (.list (encs _))), (2, .d (.int _ _)), (6, .d (.bool false)), (7, .d (.bool true)), (8, .d (encL _))] ⟨rfl, rfl, rfl, rfl, rfl, rfl, trivial⟩ ?_
    refine Runs.rseq ?_
    refine RO.opv (v' := .d (.bool true)) (opv_move rfl) rfl ?_
    refine RO.opv (v' := .d (.bool true)) (opv_move rfl) rfl ?_
    refine RO.opgv (v' := .d (encL _)) rfl (opv_move rfl) rfl ?_
    refine RO.opgv (v' := .d (.bool true)) rfl (opv_nenil rfl rfl rfl) rfl ?_
    refine RO.opv (v' := .d (.bool true)) (opv_pick rfl rfl) rfl ?_
    refine RO.opv (v' := .d (.bool true)) (opv_assign rfl) rfl ?_
    refine RO.nil ?_
    refine Runs.ret ?_
    refine thenQ_ret ?_
    refine EndQ.tmp (.inr rfl) rfl rfl 0 (by exact Nat.le_refl _) (by exact Nat.zero_le _) trivial ⟨?_, rfl⟩
    first
      | rfl
      | (exfalso; omega)
      | (exfalso; rcases hM with ⟨_, _, _⟩ | ⟨hx, hy⟩ <;> omega)
      | (refine bool_eq ?_; rw [hO.2]; simp; done)
  · try simp only [decide_eq_true_eq, decide_eq_false_iff_not, beq_iff_eq, beq_eq_false_iff_ne, bne_iff_ne, bne_eq_false_iff_eq, Int.not_lt, Int.not_le, ne_eq, Bool.not_eq_true', Bool.not_eq_false', gt_iff_lt, ge_iff_le] at h1
    refine RO.opgv (v' := .d (.list (encs _))) rfl (opv_move rfl) rfl ?_
    refine RO.opgv (v' := .d (.bool _)) rfl (opv_callF (few_fn b (by omega)) rfl rfl rfl trivial) rfl ?_
    refine RO.opgv (v' := .d (.bool _)) rfl (opv_not rfl rfl) rfl ?_
    refine RO.opv (v' := .d (.bool _)) (opv_pick rfl rfl) rfl ?_
    refine RO.opc (opv_move rfl) (fun h2 => ?_) (fun h2 => ?_)
    · try simp only [decide_eq_true_eq, decide_eq_false_iff_not, beq_iff_eq, beq_eq_false_iff_ne, bne_iff_ne, bne_eq_false_iff_eq, Int.not_lt, Int.not_le, ne_eq, Bool.not_eq_true', Bool.not_eq_false', gt_iff_lt, ge_iff_le] at h2
      refine RO.off rfl ?_
      refine RO.off rfl ?_
      refine RO.off rfl ?_
      refine RO.off rfl ?_
      refine RO.off rfl ?_
      refine RO.off rfl ?_
      refine RO.opv (v' := .d (.bool true)) (opv_pick rfl rfl) rfl ?_
      refine RO.nil ?_
      refine Runs.condT rfl ?_
      refine Runs.has [(0, .d (.list (encs _))), (1, .d (.list (encs _))), (2, .d (.int _ _)), (6, .d (.bool false)), (7, .d (.bool true)), (8, .d (encL _))] ⟨rfl, rfl, rfl, rfl, rfl, rfl, trivial⟩ ?_
      refine Runs.rseq ?_
      refine RO.opv (v' := .d (.bool true)) (opv_move rfl) rfl ?_
      refine RO.opv (v' := .d (.bool true)) (opv_move rfl) rfl ?_
      refine RO.opgv (v' := .d (encL _)) rfl (opv_move rfl) rfl ?_
      refine RO.opgv (v' := .d (.bool true)) rfl (opv_nenil rfl rfl rfl) rfl ?_
      refine RO.opv (v' := .d (.bool true)) (opv_pick rfl rfl) rfl ?_
      refine RO.opv (v' := .d (.bool true)) (opv_assign rfl) rfl ?_
      refine RO.nil ?_
      refine Runs.ret ?_
      refine thenQ_ret ?_
      refine EndQ.tmp (.inr rfl) rfl rfl 0 (by exact Nat.le_refl _) (by exact Nat.zero_le _) trivial ⟨?_, rfl⟩
      first
        | rfl
        | (exfalso; omega)
        | (exfalso; rcases hM with ⟨_, _, _⟩ | ⟨hx, hy⟩ <;> omega)
        | (refine bool_eq ?_; rw [hO.2]; simp; done)
    · try simp only [decide_eq_true_eq, decide_eq_false_iff_not, beq_iff_eq, beq_eq_false_iff_ne, bne_iff_ne, bne_eq_false_iff_eq, Int.not_lt, Int.not_le, ne_eq, Bool.not_eq_true', Bool.not_eq_false', gt_iff_lt, ge_iff_le] at h2
      refine RO.opgv (v' := .d (.list (encs _))) rfl (opv_move rfl) rfl ?_
      refine RO.opgv (v' := .d (.int _ _)) rfl (opv_len_terms rfl) rfl ?_
      refine RO.opgv (v' := .d (.list (encs _))) rfl (opv_move rfl) rfl ?_
      refine RO.opgv (v' := .d (.int _ _)) rfl (opv_len_terms rfl) rfl ?_
      refine RO.opgv (v' := .d (.int _ _)) rfl (opv_arith (r := ((a.length + b.length : Nat) : Int)) rfl rfl (by simp only [binD, if_true]; rw [wrap64 (by omega) (by omega)]; congr 2)) rfl ?_
      refine RO.opgv (v' := .d (.bool _)) rfl (opv_bin rfl rfl rfl) rfl ?_
      refine RO.opc (opv_pick rfl rfl) (fun h3 => ?_) (fun h3 => ?_)
      · try simp only [decide_eq_true_eq, decide_eq_false_iff_not, beq_iff_eq, beq_eq_false_iff_ne, bne_iff_ne, bne_eq_false_iff_eq, Int.not_lt, Int.not_le, ne_eq, Bool.not_eq_true', Bool.not_eq_false', gt_iff_lt, ge_iff_le] at h3
        skip
        refine RO.nil ?_
        refine Runs.condT rfl ?_
        refine Runs.has [(0, .d (.list (encs _))), (1, .d (.list (encs _))), (2, .d (.int _ _)), (6, .d (.bool false)), (7, .d (.bool true)), (8, .d (encL _))] ⟨rfl, rfl, rfl, rfl, rfl, rfl, trivial⟩ ?_
        refine Runs.rseq ?_
        refine RO.opv (v' := .d (.bool true)) (opv_move rfl) rfl ?_
        refine RO.opv (v' := .d (.bool true)) (opv_move rfl) rfl ?_
        refine RO.opgv (v' := .d (encL _)) rfl (opv_move rfl) rfl ?_
        refine RO.opgv (v' := .d (.bool true)) rfl (opv_nenil rfl rfl rfl) rfl ?_
        refine RO.opv (v' := .d (.bool true)) (opv_pick rfl rfl) rfl ?_
        refine RO.opv (v' := .d (.bool true)) (opv_assign rfl) rfl ?_
        refine RO.nil ?_
        refine Runs.ret ?_
        refine thenQ_ret ?_
        refine EndQ.tmp (.inr rfl) rfl rfl 0 (by exact Nat.le_refl _) (by exact Nat.zero_le _) trivial ⟨?_, rfl⟩
        first
          | rfl
          | (exfalso; omega)
          | (exfalso; rcases hM with ⟨_, _, _⟩ | ⟨hx, hy⟩ <;> omega)
          | (refine bool_eq ?_; rw [hO.2]; simp; done)
      · try simp only [decide_eq_true_eq, decide_eq_false_iff_not, beq_iff_eq, beq_eq_false_iff_ne, bne_iff_ne, bne_eq_false_iff_eq, Int.not_lt, Int.not_le, ne_eq, Bool.not_eq_true', Bool.not_eq_false', gt_iff_lt, ge_iff_le] at h3
        have hl200 : a.length + b.length ≤ 200 := by omega
        have hM := newB_app (l := C 3) (a := a) (b := b) hl200
        refine RO.nil ?_
        refine Runs.condF rfl ?_
        refine Runs.skip ?_
        refine thenQ_normal ?_
        refine Runs.has [(0, .d (.list (encs _))), (1, .d (.list (encs _))), (2, .d (.int _ _)), (6, .d (.bool false)), (7, .d (.bool true)), (8, .d (encL _))] ⟨rfl, rfl, rfl, rfl, rfl, rfl, trivial⟩ ?_
        refine Runs.rseq ?_
        refine RO.opv (v' := .d (encL _)) (opv_move rfl) rfl ?_
        refine RO.opv (v' := .d (.list (encs _))) (opv_move rfl) rfl ?_
        refine RO.opv (opv_callF (dnew_fn (C 3) (C_ok (by decide)) a (by omega)) rfl rfl rfl ⟨trivial, trivial, trivial, trivial⟩) rfl ?_
        refine RO.opv (opv_move rfl) rfl ?_
        refine RO.opv (v' := .d (encOB _ _)) (opv_extract rfl rfl) rfl ?_
        refine RO.opv (v' := .d (.int _ _)) (opv_extract rfl rfl) rfl ?_
        refine RO.opv (v' := .d (.int _ _)) (opv_extract rfl rfl) rfl ?_
        refine RO.opv (v' := .d (encOB _ _)) (opv_assign rfl) rfl ?_
        refine RO.opv (v' := .d (.int _ _)) (opv_assign rfl) rfl ?_
        refine RO.opv (v' := .d (.int _ _)) (opv_assign rfl) rfl ?_
        refine RO.nil ?_
        refine Runs.has [(0, .d (.list (encs _))), (1, .d (.list (encs _))), (2, .d (.int _ _)), (6, .d (.bool false)), (7, .d (.bool true)), (8, .d (encL _)), (10, .d (encOB _ _)), (12, .d (.int _ _))] ⟨rfl, rfl, rfl, rfl, rfl, rfl, rfl, rfl, trivial⟩ ?_
        refine Runs.rseq ?_
        refine RO.opv (v' := .d (encL _)) (opv_move rfl) rfl ?_
        refine RO.opv (v' := .d (.list (encs _))) (opv_move rfl) rfl ?_
        refine RO.opv (opv_callF (dnew_fn (C 3) (C_ok (by decide)) b (by omega)) rfl rfl rfl ⟨trivial, trivial, trivial, trivial⟩) rfl ?_
        refine RO.opv (opv_move rfl) rfl ?_
        refine RO.opv (v' := .d (encOB _ _)) (opv_extract rfl rfl) rfl ?_
        refine RO.opv (v' := .d (.int _ _)) (opv_extract rfl rfl) rfl ?_
        refine RO.opv (v' := .d (.int _ _)) (opv_extract rfl rfl) rfl ?_
        refine RO.opv (v' := .d (encOB _ _)) (opv_assign rfl) rfl ?_
        refine RO.opv (v' := .d (.int _ _)) (opv_assign rfl) rfl ?_
        refine RO.opv (v' := .d (.int _ _)) (opv_assign rfl) rfl ?_
        refine RO.nil ?_
        refine Runs.has [(0, .d (.list (encs _))), (1, .d (.list (encs _))), (2, .d (.int _ _)), (6, .d (.bool false)), (7, .d (.bool true)), (8, .d (encL _)), (10, .d (encOB _ _)), (12, .d (.int _ _)), (13, .d (encOB _ _)), (15, .d (.int _ _))] ⟨rfl, rfl, rfl, rfl, rfl, rfl, rfl, rfl, rfl, rfl, trivial⟩ ?_
        refine Runs.rseq ?_
        refine RO.opv (v' := .d (encL _)) (opv_move rfl) rfl ?_
        refine RO.opv (v' := .nil0) (opv_buildSlice0 rfl) rfl ?_
        refine RO.opv (v' := .d (.list (encs _))) (opv_move rfl) rfl ?_
        refine RO.opn (v' := .own 0 _) (O' := [_]) (opv_append_terms0 rfl rfl (by omega)) rfl rfl ?_
        refine RO.opv (v' := .d (.list (encs _))) (opv_move rfl) rfl ?_
        refine RO.opn (v' := .d (.list (encs _))) (O' := [_]) (OpV.shut (opv_append_terms rfl rfl rfl (by omega)) rfl) rfl rfl ?_
        refine RO.opv (opv_callF (dnew_fn (C 3) (C_ok (by decide)) (a ++ b) (by omega)) rfl rfl rfl ⟨trivial, trivial, trivial, trivial⟩) rfl ?_
        refine RO.opv (opv_move rfl) rfl ?_
        refine RO.opv (v' := .d (encOB _ _)) (opv_extract rfl rfl) rfl ?_
        refine RO.opv (v' := .d (.int _ _)) (opv_extract rfl rfl) rfl ?_
        refine RO.opv (v' := .d (.int _ _)) (opv_extract rfl rfl) rfl ?_
        refine RO.opv (v' := .d (encOB _ _)) (opv_assign rfl) rfl ?_
        refine RO.opv (v' := .d (.int _ _)) (opv_assign rfl) rfl ?_
        refine RO.opv (v' := .d (.int _ _)) (opv_assign rfl) rfl ?_
        refine RO.nil ?_
        refine Runs.has [(2, .d (.int _ _)), (6, .d (.bool false)), (7, .d (.bool true)), (8, .d (encL _)), (10, .d (encOB _ _)), (12, .d (.int _ _)), (13, .d (encOB _ _)), (15, .d (.int _ _)), (16, .d (encOB _ _)), (18, .d (.int _ _))] ⟨rfl, rfl, rfl, rfl, rfl, rfl, rfl, rfl, rfl, rfl, trivial⟩ ?_
        refine Runs.rseq ?_
        refine RO.opv (v' := .d (encL _)) (opv_move rfl) rfl ?_
        refine RO.opv (opv_callZ (dnew_fn (C 3) (C_ok (by decide)) [] (Nat.zero_le _)) rfl rfl rfl ⟨trivial, trivial, trivial, trivial⟩) rfl ?_
        refine RO.opv (opv_move rfl) rfl ?_
        refine RO.opv (v' := .d (encOB _ _)) (opv_extract rfl rfl) rfl ?_
        refine RO.opv (v' := .d (.int _ _)) (opv_extract rfl rfl) rfl ?_
        refine RO.opv (v' := .d (.int _ _)) (opv_extract rfl rfl) rfl ?_
        refine RO.opv (v' := .d (encOB _ _)) (opv_assign rfl) rfl ?_
        refine RO.opv (v' := .d (.int _ _)) (opv_assign rfl) rfl ?_
        refine RO.opv (v' := .d (.int _ _)) (opv_assign rfl) rfl ?_
        refine RO.nil ?_
        refine Runs.has [(2, .d (.int _ _)), (6, .d (.bool false)), (7, .d (.bool true)), (8, .d (encL _)), (10, .d (encOB _ _)), (12, .d (.int _ _)), (13, .d (encOB _ _)), (15, .d (.int _ _)), (16, .d (encOB _ _)), (18, .d (.int _ _)), (19, .d (encOB _ _)), (21, .d (.int _ _))] ⟨rfl, rfl, rfl, rfl, rfl, rfl, rfl, rfl, rfl, rfl, rfl, rfl, trivial⟩ ?_
        refine Runs.seq ?_
        refine Runs.has [(2, .d (.int _ _)), (6, .d (.bool false)), (7, .d (.bool true)), (8, .d (encL _)), (10, .d (encOB _ _)), (12, .d (.int _ _)), (13, .d (encOB _ _)), (15, .d (.int _ _)), (16, .d (encOB _ _)), (18, .d (.int _ _)), (19, .d (encOB _ _)), (21, .d (.int _ _))] ⟨rfl, rfl, rfl, rfl, rfl, rfl, rfl, rfl, rfl, rfl, rfl, rfl, trivial⟩ ?_
        refine Runs.rseq ?_
        refine RO.opv (v' := .d (.int _ _)) (opv_move rfl) rfl ?_
        refine RO.opv (v' := .d (.bool _)) (opv_bin rfl rfl rfl) rfl ?_
        refine RO.opc (opv_move rfl) (fun h4 => ?_) (fun h4 => ?_)
        · try simp only [decide_eq_true_eq, decide_eq_false_iff_not, beq_iff_eq, beq_eq_false_iff_ne, bne_iff_ne, bne_eq_false_iff_eq, Int.not_lt, Int.not_le, ne_eq, Bool.not_eq_true', Bool.not_eq_false', gt_iff_lt, ge_iff_le] at h4
          have ha0 := h4
          refine RO.off rfl ?_
          refine RO.off rfl ?_
          refine RO.opv (v' := .d (.bool true)) (opv_pick rfl rfl) rfl ?_
          refine RO.opv (v' := .d (.bool true)) (opv_move rfl) rfl ?_
          refine RO.off rfl ?_
          refine RO.off rfl ?_
          refine RO.opv (v' := .d (.bool true)) (opv_pick rfl rfl) rfl ?_
          refine RO.opv (v' := .d (.bool true)) (opv_move rfl) rfl ?_
          refine RO.off rfl ?_
          refine RO.off rfl ?_
          refine RO.opv (v' := .d (.bool true)) (opv_pick rfl rfl) rfl ?_
          refine RO.nil ?_
          refine Runs.condT rfl ?_
          refine Runs.has [(2, .d (.int _ _)), (6, .d (.bool false)), (7, .d (.bool true)), (8, .d (encL _)), (10, .d (encOB _ _)), (12, .d (.int _ _)), (13, .d (encOB _ _)), (15, .d (.int _ _)), (16, .d (encOB _ _)), (18, .d (.int _ _)), (19, .d (encOB _ _)), (21, .d (.int _ _))] ⟨rfl, rfl, rfl, rfl, rfl, rfl, rfl, rfl, rfl, rfl, rfl, rfl, trivial⟩ ?_
          refine Runs.rseq ?_
          refine RO.opv (v' := .d (.bool true)) (opv_move rfl) rfl ?_
          refine RO.opv (v' := .d (.bool true)) (opv_move rfl) rfl ?_
          refine RO.opgv (v' := .d (.int _ _)) rfl (opv_move rfl) rfl ?_
          refine RO.opgv (v' := .d (.bool _)) rfl (opv_bin rfl rfl rfl) rfl ?_
          refine RO.opgc rfl (opv_move rfl) (fun h5 => ?_) (fun h5 => ?_)
          · try simp only [decide_eq_true_eq, decide_eq_false_iff_not, beq_iff_eq, beq_eq_false_iff_ne, bne_iff_ne, bne_eq_false_iff_eq, Int.not_lt, Int.not_le, ne_eq, Bool.not_eq_true', Bool.not_eq_false', gt_iff_lt, ge_iff_le] at h5
            refine RO.off rfl ?_
            refine RO.off rfl ?_
            refine RO.opgv (v' := .d (.bool true)) rfl (opv_pick rfl rfl) rfl ?_
            refine RO.opv (v' := .d (.bool true)) (opv_pick rfl rfl) rfl ?_
            refine RO.opv (v' := .d (.bool true)) (opv_move rfl) rfl ?_
            refine RO.opgv (v' := .d (.int _ _)) rfl (opv_move rfl) rfl ?_
            refine RO.opgv (v' := .d (.bool _)) rfl (opv_bin rfl rfl rfl) rfl ?_
            refine RO.opv (v' := .d (.bool _)) (opv_pick rfl rfl) rfl ?_
            refine RO.opc (opv_move rfl) (fun h6 => ?_) (fun h6 => ?_)
            · try simp only [decide_eq_true_eq, decide_eq_false_iff_not, beq_iff_eq, beq_eq_false_iff_ne, bne_iff_ne, bne_eq_false_iff_eq, Int.not_lt, Int.not_le, ne_eq, Bool.not_eq_true', Bool.not_eq_false', gt_iff_lt, ge_iff_le] at h6
              refine RO.opgv (v' := .d (.int _ _)) rfl (opv_move rfl) rfl ?_
              refine RO.opgv (v' := .d (.bool _)) rfl (opv_bin rfl rfl rfl) rfl ?_
              refine RO.opgc rfl (opv_move rfl) (fun h7 => ?_) (fun h7 => ?_)
              · try simp only [decide_eq_true_eq, decide_eq_false_iff_not, beq_iff_eq, beq_eq_false_iff_ne, bne_iff_ne, bne_eq_false_iff_eq, Int.not_lt, Int.not_le, ne_eq, Bool.not_eq_true', Bool.not_eq_false', gt_iff_lt, ge_iff_le] at h7
                refine RO.off rfl ?_
                refine RO.off rfl ?_
                refine RO.opgv (v' := .d (.bool true)) rfl (opv_pick rfl rfl) rfl ?_
                refine RO.opv (v' := .d (.bool true)) (opv_pick rfl rfl) rfl ?_
                refine RO.opv (v' := .d (.bool true)) (opv_assign rfl) rfl ?_
                refine RO.nil ?_
                refine Runs.ret ?_
                refine thenQ_ret ?_
                refine EndQ.tmp (.inr rfl) rfl rfl 0 (by exact Nat.le_refl _) (by exact Nat.zero_le _) trivial ⟨?_, rfl⟩
                first
                  | rfl
                  | (exfalso; omega)
                  | (exfalso; rcases hM with ⟨_, _, _⟩ | ⟨hx, hy⟩ <;> omega)
                  | (refine bool_eq ?_; rw [hO.2]; simp; done)
              · try simp only [decide_eq_true_eq, decide_eq_false_iff_not, beq_iff_eq, beq_eq_false_iff_ne, bne_iff_ne, bne_eq_false_iff_eq, Int.not_lt, Int.not_le, ne_eq, Bool.not_eq_true', Bool.not_eq_false', gt_iff_lt, ge_iff_le] at h7
                refine RO.opgv (v' := .d (encOB _ _)) rfl (opv_move rfl) rfl ?_
                refine RO.opgv (v' := .d (.bool _)) rfl (opv_nenil_ob rfl rfl) rfl ?_
                refine RO.opgv (v' := .d (.bool _)) rfl (opv_pick rfl rfl) rfl ?_
                refine RO.opv (v' := .d (.bool _)) (opv_pick rfl rfl) rfl ?_
                refine RO.opv (v' := .d (.bool _)) (opv_assign rfl) rfl ?_
                refine RO.nil ?_
                refine Runs.ret ?_
                refine thenQ_ret ?_
                refine EndQ.tmp (.inr rfl) rfl rfl 0 (by exact Nat.le_refl _) (by exact Nat.zero_le _) trivial ⟨?_, rfl⟩
                first
                  | rfl
                  | (exfalso; omega)
                  | (exfalso; rcases hM with ⟨_, _, _⟩ | ⟨hx, hy⟩ <;> omega)
                  | (refine bool_eq ?_; rw [hO.2]; simp; done)
            · try simp only [decide_eq_true_eq, decide_eq_false_iff_not, beq_iff_eq, beq_eq_false_iff_ne, bne_iff_ne, bne_eq_false_iff_eq, Int.not_lt, Int.not_le, ne_eq, Bool.not_eq_true', Bool.not_eq_false', gt_iff_lt, ge_iff_le] at h6
              first | (exfalso; omega) | exact absurd (congrArg (fun z => z.2.2) (newB_nil (C 3))) h6
          · try simp only [decide_eq_true_eq, decide_eq_false_iff_not, beq_iff_eq, beq_eq_false_iff_ne, bne_iff_ne, bne_eq_false_iff_eq, Int.not_lt, Int.not_le, ne_eq, Bool.not_eq_true', Bool.not_eq_false', gt_iff_lt, ge_iff_le] at h5
            refine RO.opgv (v' := .d (.int _ _)) rfl (opv_move rfl) rfl ?_
            refine RO.opgv (v' := .d (.bool _)) rfl (opv_bin rfl rfl rfl) rfl ?_
            refine RO.opgv (v' := .d (.bool _)) rfl (opv_pick rfl rfl) rfl ?_
            refine RO.opv (v' := .d (.bool _)) (opv_pick rfl rfl) rfl ?_
            refine RO.opc (opv_move rfl) (fun h8 => ?_) (fun h8 => ?_)
            · try simp only [decide_eq_true_eq, decide_eq_false_iff_not, beq_iff_eq, beq_eq_false_iff_ne, bne_iff_ne, bne_eq_false_iff_eq, Int.not_lt, Int.not_le, ne_eq, Bool.not_eq_true', Bool.not_eq_false', gt_iff_lt, ge_iff_le] at h8
              refine RO.opgv (v' := .d (.int _ _)) rfl (opv_move rfl) rfl ?_
              refine RO.opgv (v' := .d (.bool _)) rfl (opv_bin rfl rfl rfl) rfl ?_
              refine RO.opv (v' := .d (.bool _)) (opv_pick rfl rfl) rfl ?_
              refine RO.opc (opv_move rfl) (fun h9 => ?_) (fun h9 => ?_)
              · try simp only [decide_eq_true_eq, decide_eq_false_iff_not, beq_iff_eq, beq_eq_false_iff_ne, bne_iff_ne, bne_eq_false_iff_eq, Int.not_lt, Int.not_le, ne_eq, Bool.not_eq_true', Bool.not_eq_false', gt_iff_lt, ge_iff_le] at h9
                refine RO.opgv (v' := .d (.int _ _)) rfl (opv_move rfl) rfl ?_
                refine RO.opgv (v' := .d (.bool _)) rfl (opv_bin rfl rfl rfl) rfl ?_
                refine RO.opgc rfl (opv_move rfl) (fun h10 => ?_) (fun h10 => ?_)
                · try simp only [decide_eq_true_eq, decide_eq_false_iff_not, beq_iff_eq, beq_eq_false_iff_ne, bne_iff_ne, bne_eq_false_iff_eq, Int.not_lt, Int.not_le, ne_eq, Bool.not_eq_true', Bool.not_eq_false', gt_iff_lt, ge_iff_le] at h10
                  refine RO.off rfl ?_
                  refine RO.off rfl ?_
                  refine RO.opgv (v' := .d (.bool true)) rfl (opv_pick rfl rfl) rfl ?_
                  refine RO.opv (v' := .d (.bool true)) (opv_pick rfl rfl) rfl ?_
                  refine RO.opv (v' := .d (.bool true)) (opv_assign rfl) rfl ?_
                  refine RO.nil ?_
                  refine Runs.ret ?_
                  refine thenQ_ret ?_
                  refine EndQ.tmp (.inr rfl) rfl rfl 0 (by exact Nat.le_refl _) (by exact Nat.zero_le _) trivial ⟨?_, rfl⟩
                  first
                    | rfl
                    | (exfalso; omega)
                    | (exfalso; rcases hM with ⟨_, _, _⟩ | ⟨hx, hy⟩ <;> omega)
                    | (refine bool_eq ?_; rw [hO.2]; simp; done)
                · try simp only [decide_eq_true_eq, decide_eq_false_iff_not, beq_iff_eq, beq_eq_false_iff_ne, bne_iff_ne, bne_eq_false_iff_eq, Int.not_lt, Int.not_le, ne_eq, Bool.not_eq_true', Bool.not_eq_false', gt_iff_lt, ge_iff_le] at h10
                  refine RO.opgv (v' := .d (encOB _ _)) rfl (opv_move rfl) rfl ?_
                  refine RO.opgv (v' := .d (.bool _)) rfl (opv_nenil_ob rfl rfl) rfl ?_
                  refine RO.opgv (v' := .d (.bool _)) rfl (opv_pick rfl rfl) rfl ?_
                  refine RO.opv (v' := .d (.bool _)) (opv_pick rfl rfl) rfl ?_
                  refine RO.opv (v' := .d (.bool _)) (opv_assign rfl) rfl ?_
                  refine RO.nil ?_
                  refine Runs.ret ?_
                  refine thenQ_ret ?_
                  refine EndQ.tmp (.inr rfl) rfl rfl 0 (by exact Nat.le_refl _) (by exact Nat.zero_le _) trivial ⟨?_, rfl⟩
                  first
                    | rfl
                    | (exfalso; omega)
                    | (exfalso; rcases hM with ⟨_, _, _⟩ | ⟨hx, hy⟩ <;> omega)
                    | (refine bool_eq ?_; rw [hO.2]; simp; done)
              · try simp only [decide_eq_true_eq, decide_eq_false_iff_not, beq_iff_eq, beq_eq_false_iff_ne, bne_iff_ne, bne_eq_false_iff_eq, Int.not_lt, Int.not_le, ne_eq, Bool.not_eq_true', Bool.not_eq_false', gt_iff_lt, ge_iff_le] at h9
                first | (exfalso; omega) | exact absurd (congrArg (fun z => z.2.2) (newB_nil (C 3))) h9
            · try simp only [decide_eq_true_eq, decide_eq_false_iff_not, beq_iff_eq, beq_eq_false_iff_ne, bne_iff_ne, bne_eq_false_iff_eq, Int.not_lt, Int.not_le, ne_eq, Bool.not_eq_true', Bool.not_eq_false', gt_iff_lt, ge_iff_le] at h8
              refine RO.off rfl ?_
              refine RO.off rfl ?_
              refine RO.opv (v' := .d (.bool false)) (opv_pick rfl rfl) rfl ?_
              refine RO.opv (v' := .d (.bool false)) (opv_move rfl) rfl ?_
              refine RO.off rfl ?_
              refine RO.off rfl ?_
              refine RO.off rfl ?_
              refine RO.off rfl ?_
              refine RO.off rfl ?_
              refine RO.off rfl ?_
              refine RO.opv (v' := .d (.bool false)) (opv_pick rfl rfl) rfl ?_
              refine RO.opv (v' := .d (.bool false)) (opv_assign rfl) rfl ?_
              refine RO.nil ?_
              refine Runs.ret ?_
              refine thenQ_ret ?_
              refine EndQ.tmp (.inr rfl) rfl rfl 0 (by exact Nat.le_refl _) (by exact Nat.zero_le _) trivial ⟨?_, rfl⟩
              first
                | rfl
                | (exfalso; omega)
                | (exfalso; rcases hM with ⟨_, _, _⟩ | ⟨hx, hy⟩ <;> omega)
                | (refine bool_eq ?_; rw [hO.2]; simp; done)
        · try simp only [decide_eq_true_eq, decide_eq_false_iff_not, beq_iff_eq, beq_eq_false_iff_ne, bne_iff_ne, bne_eq_false_iff_eq, Int.not_lt, Int.not_le, ne_eq, Bool.not_eq_true', Bool.not_eq_false', gt_iff_lt, ge_iff_le] at h4
          have ha0 := h4
          refine RO.opgv (v' := .d (.int _ _)) rfl (opv_move rfl) rfl ?_
          refine RO.opgv (v' := .d (.bool _)) rfl (opv_bin rfl rfl rfl) rfl ?_
          refine RO.opv (v' := .d (.bool _)) (opv_pick rfl rfl) rfl ?_
          refine RO.opc (opv_move rfl) (fun h11 => ?_) (fun h11 => ?_)
          · try simp only [decide_eq_true_eq, decide_eq_false_iff_not, beq_iff_eq, beq_eq_false_iff_ne, bne_iff_ne, bne_eq_false_iff_eq, Int.not_lt, Int.not_le, ne_eq, Bool.not_eq_true', Bool.not_eq_false', gt_iff_lt, ge_iff_le] at h11
            have hb0 := h11
            refine RO.off rfl ?_
            refine RO.off rfl ?_
            refine RO.opv (v' := .d (.bool true)) (opv_pick rfl rfl) rfl ?_
            refine RO.opv (v' := .d (.bool true)) (opv_move rfl) rfl ?_
            refine RO.off rfl ?_
            refine RO.off rfl ?_
            refine RO.opv (v' := .d (.bool true)) (opv_pick rfl rfl) rfl ?_
            refine RO.nil ?_
            refine Runs.condT rfl ?_
            refine Runs.has [(2, .d (.int _ _)), (6, .d (.bool false)), (7, .d (.bool true)), (8, .d (encL _)), (10, .d (encOB _ _)), (12, .d (.int _ _)), (13, .d (encOB _ _)), (15, .d (.int _ _)), (16, .d (encOB _ _)), (18, .d (.int _ _)), (19, .d (encOB _ _)), (21, .d (.int _ _))] ⟨rfl, rfl, rfl, rfl, rfl, rfl, rfl, rfl, rfl, rfl, rfl, rfl, trivial⟩ ?_
            refine Runs.rseq ?_
            refine RO.opv (v' := .d (.bool true)) (opv_move rfl) rfl ?_
            refine RO.opv (v' := .d (.bool true)) (opv_move rfl) rfl ?_
            refine RO.opgv (v' := .d (.int _ _)) rfl (opv_move rfl) rfl ?_
            refine RO.opgv (v' := .d (.bool _)) rfl (opv_bin rfl rfl rfl) rfl ?_
            refine RO.opgc rfl (opv_move rfl) (fun h12 => ?_) (fun h12 => ?_)
            · try simp only [decide_eq_true_eq, decide_eq_false_iff_not, beq_iff_eq, beq_eq_false_iff_ne, bne_iff_ne, bne_eq_false_iff_eq, Int.not_lt, Int.not_le, ne_eq, Bool.not_eq_true', Bool.not_eq_false', gt_iff_lt, ge_iff_le] at h12
              refine RO.off rfl ?_
              refine RO.off rfl ?_
              refine RO.opgv (v' := .d (.bool true)) rfl (opv_pick rfl rfl) rfl ?_
              refine RO.opv (v' := .d (.bool true)) (opv_pick rfl rfl) rfl ?_
              refine RO.opv (v' := .d (.bool true)) (opv_move rfl) rfl ?_
              refine RO.opgv (v' := .d (.int _ _)) rfl (opv_move rfl) rfl ?_
              refine RO.opgv (v' := .d (.bool _)) rfl (opv_bin rfl rfl rfl) rfl ?_
              refine RO.opv (v' := .d (.bool _)) (opv_pick rfl rfl) rfl ?_
              refine RO.opc (opv_move rfl) (fun h13 => ?_) (fun h13 => ?_)
              · try simp only [decide_eq_true_eq, decide_eq_false_iff_not, beq_iff_eq, beq_eq_false_iff_ne, bne_iff_ne, bne_eq_false_iff_eq, Int.not_lt, Int.not_le, ne_eq, Bool.not_eq_true', Bool.not_eq_false', gt_iff_lt, ge_iff_le] at h13
                refine RO.opgv (v' := .d (.int _ _)) rfl (opv_move rfl) rfl ?_
                refine RO.opgv (v' := .d (.bool _)) rfl (opv_bin rfl rfl rfl) rfl ?_
                refine RO.opgc rfl (opv_move rfl) (fun h14 => ?_) (fun h14 => ?_)
                · try simp only [decide_eq_true_eq, decide_eq_false_iff_not, beq_iff_eq, beq_eq_false_iff_ne, bne_iff_ne, bne_eq_false_iff_eq, Int.not_lt, Int.not_le, ne_eq, Bool.not_eq_true', Bool.not_eq_false', gt_iff_lt, ge_iff_le] at h14
                  refine RO.off rfl ?_
                  refine RO.off rfl ?_
                  refine RO.opgv (v' := .d (.bool true)) rfl (opv_pick rfl rfl) rfl ?_
                  refine RO.opv (v' := .d (.bool true)) (opv_pick rfl rfl) rfl ?_
                  refine RO.opv (v' := .d (.bool true)) (opv_assign rfl) rfl ?_
                  refine RO.nil ?_
                  refine Runs.ret ?_
                  refine thenQ_ret ?_
                  refine EndQ.tmp (.inr rfl) rfl rfl 0 (by exact Nat.le_refl _) (by exact Nat.zero_le _) trivial ⟨?_, rfl⟩
                  first
                    | rfl
                    | (exfalso; omega)
                    | (exfalso; rcases hM with ⟨_, _, _⟩ | ⟨hx, hy⟩ <;> omega)
                    | (refine bool_eq ?_; rw [hO.2]; simp; done)
                · try simp only [decide_eq_true_eq, decide_eq_false_iff_not, beq_iff_eq, beq_eq_false_iff_ne, bne_iff_ne, bne_eq_false_iff_eq, Int.not_lt, Int.not_le, ne_eq, Bool.not_eq_true', Bool.not_eq_false', gt_iff_lt, ge_iff_le] at h14
                  refine RO.opgv (v' := .d (encOB _ _)) rfl (opv_move rfl) rfl ?_
                  refine RO.opgv (v' := .d (.bool _)) rfl (opv_nenil_ob rfl rfl) rfl ?_
                  refine RO.opgv (v' := .d (.bool _)) rfl (opv_pick rfl rfl) rfl ?_
                  refine RO.opv (v' := .d (.bool _)) (opv_pick rfl rfl) rfl ?_
                  refine RO.opv (v' := .d (.bool _)) (opv_assign rfl) rfl ?_
                  refine RO.nil ?_
                  refine Runs.ret ?_
                  refine thenQ_ret ?_
                  refine EndQ.tmp (.inr rfl) rfl rfl 0 (by exact Nat.le_refl _) (by exact Nat.zero_le _) trivial ⟨?_, rfl⟩
                  first
                    | rfl
                    | (exfalso; omega)
                    | (exfalso; rcases hM with ⟨_, _, _⟩ | ⟨hx, hy⟩ <;> omega)
                    | (refine bool_eq ?_; rw [hO.2]; simp; done)
              · try simp only [decide_eq_true_eq, decide_eq_false_iff_not, beq_iff_eq, beq_eq_false_iff_ne, bne_iff_ne, bne_eq_false_iff_eq, Int.not_lt, Int.not_le, ne_eq, Bool.not_eq_true', Bool.not_eq_false', gt_iff_lt, ge_iff_le] at h13
                first | (exfalso; omega) | exact absurd (congrArg (fun z => z.2.2) (newB_nil (C 3))) h13
            · try simp only [decide_eq_true_eq, decide_eq_false_iff_not, beq_iff_eq, beq_eq_false_iff_ne, bne_iff_ne, bne_eq_false_iff_eq, Int.not_lt, Int.not_le, ne_eq, Bool.not_eq_true', Bool.not_eq_false', gt_iff_lt, ge_iff_le] at h12
              refine RO.opgv (v' := .d (.int _ _)) rfl (opv_move rfl) rfl ?_
              refine RO.opgv (v' := .d (.bool _)) rfl (opv_bin rfl rfl rfl) rfl ?_
              refine RO.opgv (v' := .d (.bool _)) rfl (opv_pick rfl rfl) rfl ?_
              refine RO.opv (v' := .d (.bool _)) (opv_pick rfl rfl) rfl ?_
              refine RO.opc (opv_move rfl) (fun h15 => ?_) (fun h15 => ?_)
              · try simp only [decide_eq_true_eq, decide_eq_false_iff_not, beq_iff_eq, beq_eq_false_iff_ne, bne_iff_ne, bne_eq_false_iff_eq, Int.not_lt, Int.not_le, ne_eq, Bool.not_eq_true', Bool.not_eq_false', gt_iff_lt, ge_iff_le] at h15
                refine RO.opgv (v' := .d (.int _ _)) rfl (opv_move rfl) rfl ?_
                refine RO.opgv (v' := .d (.bool _)) rfl (opv_bin rfl rfl rfl) rfl ?_
                refine RO.opv (v' := .d (.bool _)) (opv_pick rfl rfl) rfl ?_
                refine RO.opc (opv_move rfl) (fun h16 => ?_) (fun h16 => ?_)
                · try simp only [decide_eq_true_eq, decide_eq_false_iff_not, beq_iff_eq, beq_eq_false_iff_ne, bne_iff_ne, bne_eq_false_iff_eq, Int.not_lt, Int.not_le, ne_eq, Bool.not_eq_true', Bool.not_eq_false', gt_iff_lt, ge_iff_le] at h16
                  refine RO.opgv (v' := .d (.int _ _)) rfl (opv_move rfl) rfl ?_
                  refine RO.opgv (v' := .d (.bool _)) rfl (opv_bin rfl rfl rfl) rfl ?_
                  refine RO.opgc rfl (opv_move rfl) (fun h17 => ?_) (fun h17 => ?_)
                  · try simp only [decide_eq_true_eq, decide_eq_false_iff_not, beq_iff_eq, beq_eq_false_iff_ne, bne_iff_ne, bne_eq_false_iff_eq, Int.not_lt, Int.not_le, ne_eq, Bool.not_eq_true', Bool.not_eq_false', gt_iff_lt, ge_iff_le] at h17
                    refine RO.off rfl ?_
                    refine RO.off rfl ?_
                    refine RO.opgv (v' := .d (.bool true)) rfl (opv_pick rfl rfl) rfl ?_
                    refine RO.opv (v' := .d (.bool true)) (opv_pick rfl rfl) rfl ?_
                    refine RO.opv (v' := .d (.bool true)) (opv_assign rfl) rfl ?_
                    refine RO.nil ?_
                    refine Runs.ret ?_
                    refine thenQ_ret ?_
                    refine EndQ.tmp (.inr rfl) rfl rfl 0 (by exact Nat.le_refl _) (by exact Nat.zero_le _) trivial ⟨?_, rfl⟩
                    first
                      | rfl
                      | (exfalso; omega)
                      | (exfalso; rcases hM with ⟨_, _, _⟩ | ⟨hx, hy⟩ <;> omega)
                      | (refine bool_eq ?_; rw [hO.2]; simp; done)
                  · try simp only [decide_eq_true_eq, decide_eq_false_iff_not, beq_iff_eq, beq_eq_false_iff_ne, bne_iff_ne, bne_eq_false_iff_eq, Int.not_lt, Int.not_le, ne_eq, Bool.not_eq_true', Bool.not_eq_false', gt_iff_lt, ge_iff_le] at h17
                    refine RO.opgv (v' := .d (encOB _ _)) rfl (opv_move rfl) rfl ?_
                    refine RO.opgv (v' := .d (.bool _)) rfl (opv_nenil_ob rfl rfl) rfl ?_
                    refine RO.opgv (v' := .d (.bool _)) rfl (opv_pick rfl rfl) rfl ?_
                    refine RO.opv (v' := .d (.bool _)) (opv_pick rfl rfl) rfl ?_
                    refine RO.opv (v' := .d (.bool _)) (opv_assign rfl) rfl ?_
                    refine RO.nil ?_
                    refine Runs.ret ?_
                    refine thenQ_ret ?_
                    refine EndQ.tmp (.inr rfl) rfl rfl 0 (by exact Nat.le_refl _) (by exact Nat.zero_le _) trivial ⟨?_, rfl⟩
                    first
                      | rfl
                      | (exfalso; omega)
                      | (exfalso; rcases hM with ⟨_, _, _⟩ | ⟨hx, hy⟩ <;> omega)
                      | (refine bool_eq ?_; rw [hO.2]; simp; done)
                · try simp only [decide_eq_true_eq, decide_eq_false_iff_not, beq_iff_eq, beq_eq_false_iff_ne, bne_iff_ne, bne_eq_false_iff_eq, Int.not_lt, Int.not_le, ne_eq, Bool.not_eq_true', Bool.not_eq_false', gt_iff_lt, ge_iff_le] at h16
                  first | (exfalso; omega) | exact absurd (congrArg (fun z => z.2.2) (newB_nil (C 3))) h16
              · try simp only [decide_eq_true_eq, decide_eq_false_iff_not, beq_iff_eq, beq_eq_false_iff_ne, bne_iff_ne, bne_eq_false_iff_eq, Int.not_lt, Int.not_le, ne_eq, Bool.not_eq_true', Bool.not_eq_false', gt_iff_lt, ge_iff_le] at h15
                refine RO.off rfl ?_
                refine RO.off rfl ?_
                refine RO.opv (v' := .d (.bool false)) (opv_pick rfl rfl) rfl ?_
                refine RO.opv (v' := .d (.bool false)) (opv_move rfl) rfl ?_
                refine RO.off rfl ?_
                refine RO.off rfl ?_
                refine RO.off rfl ?_
                refine RO.off rfl ?_
                refine RO.off rfl ?_
                refine RO.off rfl ?_
                refine RO.opv (v' := .d (.bool false)) (opv_pick rfl rfl) rfl ?_
                refine RO.opv (v' := .d (.bool false)) (opv_assign rfl) rfl ?_
                refine RO.nil ?_
                refine Runs.ret ?_
                refine thenQ_ret ?_
                refine EndQ.tmp (.inr rfl) rfl rfl 0 (by exact Nat.le_refl _) (by exact Nat.zero_le _) trivial ⟨?_, rfl⟩
                first
                  | rfl
                  | (exfalso; omega)
                  | (exfalso; rcases hM with ⟨_, _, _⟩ | ⟨hx, hy⟩ <;> omega)
                  | (refine bool_eq ?_; rw [hO.2]; simp; done)
          · try simp only [decide_eq_true_eq, decide_eq_false_iff_not, beq_iff_eq, beq_eq_false_iff_ne, bne_iff_ne, bne_eq_false_iff_eq, Int.not_lt, Int.not_le, ne_eq, Bool.not_eq_true', Bool.not_eq_false', gt_iff_lt, ge_iff_le] at h11
            have hb0 := h11
            refine RO.opgv (v' := .d (encOB _ _)) rfl (opv_move rfl) rfl ?_
            refine RO.opgv (v' := .d (.bool _)) rfl (opv_eqnil_ob rfl rfl) rfl ?_
            refine RO.opv (v' := .d (.bool _)) (opv_pick rfl rfl) rfl ?_
            refine RO.opc (opv_move rfl) (fun h18 => ?_) (fun h18 => ?_)
            · try simp only [decide_eq_true_eq, decide_eq_false_iff_not, beq_iff_eq, beq_eq_false_iff_ne, bne_iff_ne, bne_eq_false_iff_eq, Int.not_lt, Int.not_le, ne_eq, Bool.not_eq_true', Bool.not_eq_false', gt_iff_lt, ge_iff_le] at h18
              skip
              rcases hA with ⟨_, _, m1, _⟩ | ⟨_, _, hx⟩
              · rw [m1] at h18; cases h18
              · exact absurd ha0 hx
            · try simp only [decide_eq_true_eq, decide_eq_false_iff_not, beq_iff_eq, beq_eq_false_iff_ne, bne_iff_ne, bne_eq_false_iff_eq, Int.not_lt, Int.not_le, ne_eq, Bool.not_eq_true', Bool.not_eq_false', gt_iff_lt, ge_iff_le] at h18
              have hZ : (newB (C 3) (a ++ b)).2.2 = 0 ∧ (newB (C 3) (a ++ b)).1 = some (parsesT (C 3) a ++ parsesT (C 3) b) := by
                rcases hM with ⟨_, _, m1, m2⟩ | ⟨hx, _⟩
                · exact ⟨m1, m2⟩
                · exfalso; omega
              have hA1 : (newB (C 3) a).1 = some (parsesT (C 3) a) := by
                rcases hA with ⟨_, _, m1, _⟩ | ⟨_, _, hx⟩
                · exact m1
                · exact absurd ha0 hx
              have hB1 : (newB (C 3) b).1 = some (parsesT (C 3) b) := by
                rcases hB with ⟨_, _, m1, _⟩ | ⟨_, _, hx⟩
                · exact m1
                · exact absurd hb0 hx
              have tA := newB_top hk hA1
              have tB := newB_top hk hB1
              have tZ := newB_top hk hZ.2
              refine RO.opgv (v' := .d (encOB _ _)) rfl (opv_move rfl) rfl ?_
              refine RO.opgv (v' := .d (.bool _)) rfl (opv_eqnil_ob rfl rfl) rfl ?_
              refine RO.opc (opv_pick rfl rfl) (fun h19 => ?_) (fun h19 => ?_)
              · try simp only [decide_eq_true_eq, decide_eq_false_iff_not, beq_iff_eq, beq_eq_false_iff_ne, bne_iff_ne, bne_eq_false_iff_eq, Int.not_lt, Int.not_le, ne_eq, Bool.not_eq_true', Bool.not_eq_false', gt_iff_lt, ge_iff_le] at h19
                rw [hB1] at h19; cases h19
              · try simp only [decide_eq_true_eq, decide_eq_false_iff_not, beq_iff_eq, beq_eq_false_iff_ne, bne_iff_ne, bne_eq_false_iff_eq, Int.not_lt, Int.not_le, ne_eq, Bool.not_eq_true', Bool.not_eq_false', gt_iff_lt, ge_iff_le] at h19
                refine RO.nil ?_
                refine Runs.condF rfl ?_
                refine Runs.skip ?_
                refine thenQ_normal ?_
                refine Runs.has [(2, .d (.int _ _)), (6, .d (.bool false)), (7, .d (.bool true)), (8, .d (encL _)), (10, .d (encOB _ _)), (13, .d (encOB _ _)), (16, .d (encOB _ _)), (18, .d (.int _ _)), (19, .d (encOB _ _)), (21, .d (.int _ _))] ⟨rfl, rfl, rfl, rfl, rfl, rfl, rfl, rfl, rfl, rfl, trivial⟩ ?_
                refine Runs.rseq ?_
                refine RO.opv (v' := .d (.int _ _)) (opv_move rfl) rfl ?_
                refine RO.opv (v' := .d (.int _ _)) (opv_arith (r := x) rfl rfl (by simp only [binD, if_true]; rw [if_neg (by decide), x0])) rfl ?_
                refine RO.opv (v' := .d (.int _ _)) (opv_conv (r := x) rfl (wrap64 (by omega) (by omega))) rfl ?_
                refine RO.opv (v' := .d (.int _ _)) (opv_assign rfl) rfl ?_
                refine RO.nil ?_
                refine Runs.has [(6, .d (.bool false)), (7, .d (.bool true)), (8, .d (encL _)), (10, .d (encOB _ _)), (13, .d (encOB _ _)), (16, .d (encOB _ _)), (18, .d (.int _ _)), (19, .d (encOB _ _)), (21, .d (.int _ _)), (22, .d (.int _ _))] ⟨rfl, rfl, rfl, rfl, rfl, rfl, rfl, rfl, rfl, rfl, trivial⟩ ?_
                refine Runs.rseq ?_
                refine RO.opv (v' := .d (encL _)) (opv_move rfl) rfl ?_
                refine RO.opv (v' := .d (.int _ _)) (opv_move rfl) rfl ?_
                refine RO.opv (v' := .d (enc _)) (opv_callF (num_fn x) rfl rfl rfl trivial) rfl ?_
                refine RO.opv (v' := .d (enc _)) (opv_callF (atom_fn ⟨#[112]⟩) rfl rfl rfl trivial) rfl ?_
                refine RO.opv (v' := .d (.list (encs _))) (opv_bs_term2 rfl rfl ) rfl ?_
                refine RO.opv (v' := .d (enc _)) (opv_callF (make_fn ncol [.node 2 x ⟨#[]⟩ [], .node 3 0 ⟨#[112]⟩ []] (Nat.le_of_ble_eq_true rfl)) rfl rfl rfl trivial) rfl ?_
                refine RO.opv (v' := .d (.list (encs _))) (opv_bs_term1 rfl ) rfl ?_
                refine RO.opv (opv_callF (dnew_fn (C 3) (C_ok (by decide)) [(Term.node 3 0 ncol [.node 2 x ⟨#[]⟩ [], .node 3 0 ⟨#[112]⟩ []])] (by omega)) rfl rfl rfl ⟨trivial, trivial, trivial, trivial⟩) rfl ?_
                refine RO.opv (opv_move rfl) rfl ?_
                refine RO.opv (v' := .d (encOB _ _)) (opv_extract rfl rfl) rfl ?_
                refine RO.opv (v' := .d (.int _ _)) (opv_extract rfl rfl) rfl ?_
                refine RO.opv (v' := .d (.int _ _)) (opv_extract rfl rfl) rfl ?_
                refine RO.opv (v' := .d (encOB _ _)) (opv_assign rfl) rfl ?_
                refine RO.opv (v' := .d (.int _ _)) (opv_assign rfl) rfl ?_
                refine RO.opv (v' := .d (.int _ _)) (opv_assign rfl) rfl ?_
                refine RO.nil ?_
                refine Runs.has [(6, .d (.bool false)), (7, .d (.bool true)), (8, .d (encL _)), (10, .d (encOB _ _)), (13, .d (encOB _ _)), (16, .d (encOB _ _)), (18, .d (.int _ _)), (19, .d (encOB _ _)), (21, .d (.int _ _)), (22, .d (.int _ _)), (23, .d (encOB _ _)), (25, .d (.int _ _))] ⟨rfl, rfl, rfl, rfl, rfl, rfl, rfl, rfl, rfl, rfl, rfl, rfl, trivial⟩ ?_
                refine Runs.rseq ?_
                refine RO.opv (v' := .d (.bool true)) (opv_move rfl) rfl ?_
                refine RO.opv (v' := .d (.bool true)) (opv_move rfl) rfl ?_
                refine RO.opgv (v' := .d (.int _ _)) rfl (opv_move rfl) rfl ?_
                refine RO.opgv (v' := .d (.bool _)) rfl (opv_bin rfl rfl rfl) rfl ?_
                refine RO.opv (v' := .d (.bool _)) (opv_pick rfl rfl) rfl ?_
                refine RO.opc (opv_move rfl) (fun h20 => ?_) (fun h20 => ?_)
                · try simp only [decide_eq_true_eq, decide_eq_false_iff_not, beq_iff_eq, beq_eq_false_iff_ne, bne_iff_ne, bne_eq_false_iff_eq, Int.not_lt, Int.not_le, ne_eq, Bool.not_eq_true', Bool.not_eq_false', gt_iff_lt, ge_iff_le] at h20
                  refine RO.opgv (v' := .d (.int _ _)) rfl (opv_move rfl) rfl ?_
                  refine RO.opgv (v' := .d (.bool _)) rfl (opv_bin rfl rfl rfl) rfl ?_
                  refine RO.opv (v' := .d (.bool _)) (opv_pick rfl rfl) rfl ?_
                  refine RO.opc (opv_move rfl) (fun h21 => ?_) (fun h21 => ?_)
                  · try simp only [decide_eq_true_eq, decide_eq_false_iff_not, beq_iff_eq, beq_eq_false_iff_ne, bne_iff_ne, bne_eq_false_iff_eq, Int.not_lt, Int.not_le, ne_eq, Bool.not_eq_true', Bool.not_eq_false', gt_iff_lt, ge_iff_le] at h21
                    refine RO.opgv (v' := .d (.int _ _)) rfl (opv_move rfl) rfl ?_
                    refine RO.opgv (v' := .d (.bool _)) rfl (opv_bin rfl rfl rfl) rfl ?_
                    refine RO.opv (v' := .d (.bool _)) (opv_pick rfl rfl) rfl ?_
                    refine RO.opc (opv_move rfl) (fun h22 => ?_) (fun h22 => ?_)
                    · try simp only [decide_eq_true_eq, decide_eq_false_iff_not, beq_iff_eq, beq_eq_false_iff_ne, bne_iff_ne, bne_eq_false_iff_eq, Int.not_lt, Int.not_le, ne_eq, Bool.not_eq_true', Bool.not_eq_false', gt_iff_lt, ge_iff_le] at h22
                      refine RO.opgv (v' := .d (encOB _ _)) rfl (opv_move rfl) rfl ?_
                      refine RO.opgv (v' := .d (.bool _)) rfl (opv_nenil_ob rfl rfl) rfl ?_
                      refine RO.opv (v' := .d (.bool _)) (opv_pick rfl rfl) rfl ?_
                      refine RO.opc (opv_move rfl) (fun h23 => ?_) (fun h23 => ?_)
                      · try simp only [decide_eq_true_eq, decide_eq_false_iff_not, beq_iff_eq, beq_eq_false_iff_ne, bne_iff_ne, bne_eq_false_iff_eq, Int.not_lt, Int.not_le, ne_eq, Bool.not_eq_true', Bool.not_eq_false', gt_iff_lt, ge_iff_le] at h23
                        refine RO.opgv (v' := .d (encOB _ _)) rfl (opv_move rfl) rfl ?_
                        refine RO.opgv (v' := .d (.int _ _)) rfl (opv_callF (top_fn (C 3) (C_ok (by decide)) (newB (C 3) (a ++ b)).1 (newB_all_len _ _) (newB_small (by omega))) rfl rfl rfl trivial) rfl ?_
                        refine RO.opgv (v' := .d (encL _)) rfl (opv_move rfl) rfl ?_
                        refine RO.opgv (v' := .d (encOB _ _)) rfl (opv_move rfl) rfl ?_
                        refine RO.opgv (v' := .d (.int _ _)) rfl (opv_callF (top_fn (C 3) (C_ok (by decide)) (newB (C 3) a).1 (newB_all_len _ _) (newB_small (by omega))) rfl rfl rfl trivial) rfl ?_
                        refine RO.opgv (v' := .d (encOB _ _)) rfl (opv_move rfl) rfl ?_
                        refine RO.opgv (v' := .d (.int _ _)) rfl (opv_callF (top_fn (C 3) (C_ok (by decide)) (newB (C 3) b).1 (newB_all_len _ _) (newB_small (by omega))) rfl rfl rfl trivial) rfl ?_
                        refine RO.opgv (v' := .d (.int _ _)) rfl (opv_callF (ljoin_fn (C 3) (C_ok (by decide)) _ _) rfl rfl rfl trivial) rfl ?_
                        refine RO.opgv (v' := .d (.bool _)) rfl (opv_bin rfl rfl rfl) rfl ?_
                        refine RO.opv (v' := .d (.bool _)) (opv_pick rfl rfl) rfl ?_
                        refine RO.opc (opv_move rfl) (fun h24 => ?_) (fun h24 => ?_)
                        · try simp only [decide_eq_true_eq, decide_eq_false_iff_not, beq_iff_eq, beq_eq_false_iff_ne, bne_iff_ne, bne_eq_false_iff_eq, Int.not_lt, Int.not_le, ne_eq, Bool.not_eq_true', Bool.not_eq_false', gt_iff_lt, ge_iff_le] at h24
                          refine RO.opgv (v' := .d (encOB _ _)) rfl (opv_move rfl) rfl ?_
                          refine RO.opgv (v' := .d (.int _ _)) rfl (opv_callF (top_fn (C 3) (C_ok (by decide)) (newB (C 3) []).1 (newB_all_len _ _) (newB_small (Nat.zero_le _))) rfl rfl rfl trivial) rfl ?_
                          refine RO.opgv (v' := .d (.bool _)) rfl (opv_bin rfl rfl rfl) rfl ?_
                          refine RO.opv (v' := .d (.bool _)) (opv_pick rfl rfl) rfl ?_
                          refine RO.opc (opv_move rfl) (fun h25 => ?_) (fun h25 => ?_)
                          · try simp only [decide_eq_true_eq, decide_eq_false_iff_not, beq_iff_eq, beq_eq_false_iff_ne, bne_iff_ne, bne_eq_false_iff_eq, Int.not_lt, Int.not_le, ne_eq, Bool.not_eq_true', Bool.not_eq_false', gt_iff_lt, ge_iff_le] at h25
                            refine RO.opgv (v' := .d (encOB _ _)) rfl (opv_move rfl) rfl ?_
                            refine RO.opgv (v' := .d (.int _ _)) rfl (opv_callF (top_fn (C 3) (C_ok (by decide)) (newB (C 3) [(Term.node 3 0 ncol [.node 2 x ⟨#[]⟩ [], .node 3 0 ⟨#[112]⟩ []])]).1 (newB_all_len _ _) (newB_small (by omega))) rfl rfl rfl trivial) rfl ?_
                            refine RO.opgv (v' := .d (.int _ _)) rfl (opv_move rfl) rfl ?_
                            refine RO.opgv (v' := .d (.bool _)) rfl (opv_bin rfl rfl rfl) rfl ?_
                            refine RO.opv (v' := .d (.bool _)) (opv_pick rfl rfl) rfl ?_
                            refine RO.opv (v' := .d (.bool _)) (opv_assign rfl) rfl ?_
                            refine RO.nil ?_
                            refine Runs.ret ?_
                            refine EndQ.tmp (.inr rfl) rfl rfl 0 (by exact Nat.le_refl _) (by exact Nat.zero_le _) trivial ⟨?_, rfl⟩
                            first
                              | rfl
                              | (exfalso; omega)
                              | (exfalso; rcases hM with ⟨_, _, _⟩ | ⟨hx, hy⟩ <;> omega)
                              | (refine bool_eq ?_; rw [hO.2]; simp; done)
                          · try simp only [decide_eq_true_eq, decide_eq_false_iff_not, beq_iff_eq, beq_eq_false_iff_ne, bne_iff_ne, bne_eq_false_iff_eq, Int.not_lt, Int.not_le, ne_eq, Bool.not_eq_true', Bool.not_eq_false', gt_iff_lt, ge_iff_le] at h25
                            exact absurd (show topO (C 3) (some []) = 0 from C_bot hk) h25
                        · try simp only [decide_eq_true_eq, decide_eq_false_iff_not, beq_iff_eq, beq_eq_false_iff_ne, bne_iff_ne, bne_eq_false_iff_eq, Int.not_lt, Int.not_le, ne_eq, Bool.not_eq_true', Bool.not_eq_false', gt_iff_lt, ge_iff_le] at h24
                          rw [tZ.1, tA.1, tB.1, C_join hk tA.2.1 tA.2.2 tB.2.1 tB.2.2, tops_app _ _ (fun _ _ => trivial) tB.2.1] at h24; exact absurd rfl h24
                      · try simp only [decide_eq_true_eq, decide_eq_false_iff_not, beq_iff_eq, beq_eq_false_iff_ne, bne_iff_ne, bne_eq_false_iff_eq, Int.not_lt, Int.not_le, ne_eq, Bool.not_eq_true', Bool.not_eq_false', gt_iff_lt, ge_iff_le] at h23
                        rw [hZ.2] at h23; cases h23
                    · try simp only [decide_eq_true_eq, decide_eq_false_iff_not, beq_iff_eq, beq_eq_false_iff_ne, bne_iff_ne, bne_eq_false_iff_eq, Int.not_lt, Int.not_le, ne_eq, Bool.not_eq_true', Bool.not_eq_false', gt_iff_lt, ge_iff_le] at h22
                      exact absurd hO.1 h22
                  · try simp only [decide_eq_true_eq, decide_eq_false_iff_not, beq_iff_eq, beq_eq_false_iff_ne, bne_iff_ne, bne_eq_false_iff_eq, Int.not_lt, Int.not_le, ne_eq, Bool.not_eq_true', Bool.not_eq_false', gt_iff_lt, ge_iff_le] at h21
                    exact absurd (congrArg (fun z => z.2.2) (newB_nil (C 3))) h21
                · try simp only [decide_eq_true_eq, decide_eq_false_iff_not, beq_iff_eq, beq_eq_false_iff_ne, bne_iff_ne, bne_eq_false_iff_eq, Int.not_lt, Int.not_le, ne_eq, Bool.not_eq_true', Bool.not_eq_false', gt_iff_lt, ge_iff_le] at h20
                  exact absurd hZ.1 h20
end Go.Proofs.Ytmokkjmoneablaa.AM
