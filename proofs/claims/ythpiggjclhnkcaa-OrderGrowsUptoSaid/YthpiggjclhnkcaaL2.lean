import Derived.Test.YthpiggjclhnkcaaL0
namespace Go.Proofs.Ythpiggjclhnkcaa.AM
open Go
set_option linter.unusedVariables false
set_option linter.unusedSimpArgs false
theorem orderGrows_fn (a b c d : Term) (g1 : a.bulk ≤ 2 ^ 20) (_g1' : a.fits) (g2 : b.bulk ≤ 2 ^ 20) (_g2' : b.fits) (g3 : c.bulk ≤ 2 ^ 20) (_g3' : c.fits) (g4 : d.bulk ≤ 2 ^ 20) (_g4' : d.fits) : Fn Try.prog 6 [.d (enc a), .d (enc b), .d (enc c), .d (enc d)] [] (.d (.bool true)) [] := by
  refine Does.run Try.func6 rfl Try.ntmps6 rfl fun K hK => ?_
  refine Runs.rseq ?_
  refine RO.opn (v' := .ref 0 0) (O' := [_]) (opv_box_term rfl) rfl rfl ?_
  refine RO.opn (v' := .ref 1 0) (O' := [_, _]) (opv_box_term rfl) rfl rfl ?_
  refine RO.opn (v' := .ref 2 0) (O' := [_, _, _]) (opv_box_term rfl) rfl rfl ?_
  refine RO.opn (v' := .ref 3 0) (O' := [_, _, _, _]) (opv_box_term rfl) rfl rfl ?_
  refine RO.opv (v' := .d (.bool false)) (opv_assign rfl) rfl ?_
  refine RO.nil ?_
  refine Runs.has [(4, .ref 0 0), (5, .ref 1 0), (6, .ref 2 0), (7, .ref 3 0), (8, .d (.bool false))] ⟨rfl, rfl, rfl, rfl, rfl, trivial⟩ ?_
  refine Runs.rseq ?_
  refine RO.opv (v' := .d (.bool true)) (opv_callF (shown_fn) rfl rfl rfl trivial) rfl ?_
  refine RO.opv (v' := .d (.bool true)) (opv_assign rfl) rfl ?_
  refine RO.nil ?_
  refine Runs.has [(4, .ref 0 0), (5, .ref 1 0), (6, .ref 2 0), (7, .ref 3 0), (8, .d (.bool false)), (9, .d (.bool true))] ⟨rfl, rfl, rfl, rfl, rfl, rfl, trivial⟩ ?_
  refine Runs.seq ?_
  refine Runs.rseq ?_
  refine RO.opv (v' := .d (enc _)) (opv_load_term rfl rfl rfl) rfl ?_
  refine RO.opv (v' := .d (.bool _)) (opv_callF (few_fn a (by omega)) rfl rfl rfl trivial) rfl ?_
  refine RO.opv (v' := .d (.bool _)) (opv_not rfl rfl) rfl ?_
  refine RO.opc (opv_move rfl) (fun h1 => ?_) (fun h1 => ?_)
  · try simp only [decide_eq_true_eq, decide_eq_false_iff_not, beq_iff_eq, beq_eq_false_iff_ne, bne_iff_ne, bne_eq_false_iff_eq, Int.not_lt, Int.not_le, ne_eq, Bool.not_eq_true', Bool.not_eq_false', gt_iff_lt, ge_iff_le] at h1
    refine RO.off rfl ?_
    refine RO.off rfl ?_
    refine RO.off rfl ?_
    refine RO.opv (v' := .d (.bool true)) (opv_pick rfl rfl) rfl ?_
    refine RO.opv (v' := .d (.bool true)) (opv_move rfl) rfl ?_
    refine RO.off rfl ?_
    refine RO.off rfl ?_
    refine RO.off rfl ?_
    refine RO.opv (v' := .d (.bool true)) (opv_pick rfl rfl) rfl ?_
    refine RO.opv (v' := .d (.bool true)) (opv_move rfl) rfl ?_
    refine RO.off rfl ?_
    refine RO.off rfl ?_
    refine RO.off rfl ?_
    refine RO.opv (v' := .d (.bool true)) (opv_pick rfl rfl) rfl ?_
    refine RO.nil ?_
    refine Runs.condT rfl ?_
    refine Runs.has [(4, .ref 0 0), (5, .ref 1 0), (6, .ref 2 0), (7, .ref 3 0), (8, .d (.bool false)), (9, .d (.bool true))] ⟨rfl, rfl, rfl, rfl, rfl, rfl, trivial⟩ ?_
    refine Runs.rseq ?_
    refine RO.opv (v' := .d (.bool true)) (opv_move rfl) rfl ?_
    refine RO.opv (v' := .d (.bool true)) (opv_assign rfl) rfl ?_
    refine RO.nil ?_
    refine Runs.ret ?_
    refine thenQ_ret ?_
    refine EndQ.tmp (.inr rfl) rfl rfl 0 (by exact Nat.le_refl _) (by exact Nat.zero_le _) trivial ⟨?_, rfl⟩
    first
      | rfl
      | (refine bool_eq ?_; rw [compare_pair, compare_refl]; unfold or2; rw [if_neg (fun hh => hh rfl)]; simp; done)
      | (refine bool_eq ?_; rw [compare_pair]; unfold or2; rw [if_neg (fun hh => hh hx)]; simp)
  · try simp only [decide_eq_true_eq, decide_eq_false_iff_not, beq_iff_eq, beq_eq_false_iff_ne, bne_iff_ne, bne_eq_false_iff_eq, Int.not_lt, Int.not_le, ne_eq, Bool.not_eq_true', Bool.not_eq_false', gt_iff_lt, ge_iff_le] at h1
    refine RO.opgv (v' := .d (enc _)) rfl (opv_load_term rfl rfl rfl) rfl ?_
    refine RO.opgv (v' := .d (.bool _)) rfl (opv_callF (few_fn b (by omega)) rfl rfl rfl trivial) rfl ?_
    refine RO.opgv (v' := .d (.bool _)) rfl (opv_not rfl rfl) rfl ?_
    refine RO.opv (v' := .d (.bool _)) (opv_pick rfl rfl) rfl ?_
    refine RO.opc (opv_move rfl) (fun h2 => ?_) (fun h2 => ?_)
    · try simp only [decide_eq_true_eq, decide_eq_false_iff_not, beq_iff_eq, beq_eq_false_iff_ne, bne_iff_ne, bne_eq_false_iff_eq, Int.not_lt, Int.not_le, ne_eq, Bool.not_eq_true', Bool.not_eq_false', gt_iff_lt, ge_iff_le] at h2
      refine RO.off rfl ?_
      refine RO.off rfl ?_
      refine RO.off rfl ?_
      refine RO.opv (v' := .d (.bool true)) (opv_pick rfl rfl) rfl ?_
      refine RO.opv (v' := .d (.bool true)) (opv_move rfl) rfl ?_
      refine RO.off rfl ?_
      refine RO.off rfl ?_
      refine RO.off rfl ?_
      refine RO.opv (v' := .d (.bool true)) (opv_pick rfl rfl) rfl ?_
      refine RO.nil ?_
      refine Runs.condT rfl ?_
      refine Runs.has [(4, .ref 0 0), (5, .ref 1 0), (6, .ref 2 0), (7, .ref 3 0), (8, .d (.bool false)), (9, .d (.bool true))] ⟨rfl, rfl, rfl, rfl, rfl, rfl, trivial⟩ ?_
      refine Runs.rseq ?_
      refine RO.opv (v' := .d (.bool true)) (opv_move rfl) rfl ?_
      refine RO.opv (v' := .d (.bool true)) (opv_assign rfl) rfl ?_
      refine RO.nil ?_
      refine Runs.ret ?_
      refine thenQ_ret ?_
      refine EndQ.tmp (.inr rfl) rfl rfl 0 (by exact Nat.le_refl _) (by exact Nat.zero_le _) trivial ⟨?_, rfl⟩
      first
        | rfl
        | (refine bool_eq ?_; rw [compare_pair, compare_refl]; unfold or2; rw [if_neg (fun hh => hh rfl)]; simp; done)
        | (refine bool_eq ?_; rw [compare_pair]; unfold or2; rw [if_neg (fun hh => hh hx)]; simp)
    · try simp only [decide_eq_true_eq, decide_eq_false_iff_not, beq_iff_eq, beq_eq_false_iff_ne, bne_iff_ne, bne_eq_false_iff_eq, Int.not_lt, Int.not_le, ne_eq, Bool.not_eq_true', Bool.not_eq_false', gt_iff_lt, ge_iff_le] at h2
      refine RO.opgv (v' := .d (enc _)) rfl (opv_load_term rfl rfl rfl) rfl ?_
      refine RO.opgv (v' := .d (.bool _)) rfl (opv_callF (few_fn c (by omega)) rfl rfl rfl trivial) rfl ?_
      refine RO.opgv (v' := .d (.bool _)) rfl (opv_not rfl rfl) rfl ?_
      refine RO.opv (v' := .d (.bool _)) (opv_pick rfl rfl) rfl ?_
      refine RO.opc (opv_move rfl) (fun h3 => ?_) (fun h3 => ?_)
      · try simp only [decide_eq_true_eq, decide_eq_false_iff_not, beq_iff_eq, beq_eq_false_iff_ne, bne_iff_ne, bne_eq_false_iff_eq, Int.not_lt, Int.not_le, ne_eq, Bool.not_eq_true', Bool.not_eq_false', gt_iff_lt, ge_iff_le] at h3
        refine RO.off rfl ?_
        refine RO.off rfl ?_
        refine RO.off rfl ?_
        refine RO.opv (v' := .d (.bool true)) (opv_pick rfl rfl) rfl ?_
        refine RO.nil ?_
        refine Runs.condT rfl ?_
        refine Runs.has [(4, .ref 0 0), (5, .ref 1 0), (6, .ref 2 0), (7, .ref 3 0), (8, .d (.bool false)), (9, .d (.bool true))] ⟨rfl, rfl, rfl, rfl, rfl, rfl, trivial⟩ ?_
        refine Runs.rseq ?_
        refine RO.opv (v' := .d (.bool true)) (opv_move rfl) rfl ?_
        refine RO.opv (v' := .d (.bool true)) (opv_assign rfl) rfl ?_
        refine RO.nil ?_
        refine Runs.ret ?_
        refine thenQ_ret ?_
        refine EndQ.tmp (.inr rfl) rfl rfl 0 (by exact Nat.le_refl _) (by exact Nat.zero_le _) trivial ⟨?_, rfl⟩
        first
          | rfl
          | (refine bool_eq ?_; rw [compare_pair, compare_refl]; unfold or2; rw [if_neg (fun hh => hh rfl)]; simp; done)
          | (refine bool_eq ?_; rw [compare_pair]; unfold or2; rw [if_neg (fun hh => hh hx)]; simp)
      · try simp only [decide_eq_true_eq, decide_eq_false_iff_not, beq_iff_eq, beq_eq_false_iff_ne, bne_iff_ne, bne_eq_false_iff_eq, Int.not_lt, Int.not_le, ne_eq, Bool.not_eq_true', Bool.not_eq_false', gt_iff_lt, ge_iff_le] at h3
        refine RO.opgv (v' := .d (enc _)) rfl (opv_load_term rfl rfl rfl) rfl ?_
        refine RO.opgv (v' := .d (.bool _)) rfl (opv_callF (few_fn d (by omega)) rfl rfl rfl trivial) rfl ?_
        refine RO.opgv (v' := .d (.bool _)) rfl (opv_not rfl rfl) rfl ?_
        refine RO.opc (opv_pick rfl rfl) (fun h4 => ?_) (fun h4 => ?_)
        · try simp only [decide_eq_true_eq, decide_eq_false_iff_not, beq_iff_eq, beq_eq_false_iff_ne, bne_iff_ne, bne_eq_false_iff_eq, Int.not_lt, Int.not_le, ne_eq, Bool.not_eq_true', Bool.not_eq_false', gt_iff_lt, ge_iff_le] at h4
          refine RO.nil ?_
          refine Runs.condT rfl ?_
          refine Runs.has [(4, .ref 0 0), (5, .ref 1 0), (6, .ref 2 0), (7, .ref 3 0), (8, .d (.bool false)), (9, .d (.bool true))] ⟨rfl, rfl, rfl, rfl, rfl, rfl, trivial⟩ ?_
          refine Runs.rseq ?_
          refine RO.opv (v' := .d (.bool true)) (opv_move rfl) rfl ?_
          refine RO.opv (v' := .d (.bool true)) (opv_assign rfl) rfl ?_
          refine RO.nil ?_
          refine Runs.ret ?_
          refine thenQ_ret ?_
          refine EndQ.tmp (.inr rfl) rfl rfl 0 (by exact Nat.le_refl _) (by exact Nat.zero_le _) trivial ⟨?_, rfl⟩
          first
            | rfl
            | (refine bool_eq ?_; rw [compare_pair, compare_refl]; unfold or2; rw [if_neg (fun hh => hh rfl)]; simp; done)
            | (refine bool_eq ?_; rw [compare_pair]; unfold or2; rw [if_neg (fun hh => hh hx)]; simp)
        · try simp only [decide_eq_true_eq, decide_eq_false_iff_not, beq_iff_eq, beq_eq_false_iff_ne, bne_iff_ne, bne_eq_false_iff_eq, Int.not_lt, Int.not_le, ne_eq, Bool.not_eq_true', Bool.not_eq_false', gt_iff_lt, ge_iff_le] at h4
          refine RO.nil ?_
          refine Runs.condF rfl ?_
          refine Runs.skip ?_
          refine thenQ_normal ?_
          refine Runs.has [(4, .ref 0 0), (5, .ref 1 0), (6, .ref 2 0), (7, .ref 3 0), (8, .d (.bool false)), (9, .d (.bool true))] ⟨rfl, rfl, rfl, rfl, rfl, rfl, trivial⟩ ?_
          refine Runs.rseq ?_
          refine RO.opv (v' := .d (enc _)) (opv_load_term rfl rfl rfl) rfl ?_
          refine RO.opv (v' := .d (enc _)) (opv_load_term rfl rfl rfl) rfl ?_
          refine RO.opv (v' := .d (.int _ _)) (opv_callF (compare_fn a b (by omega) (by omega)) rfl rfl rfl trivial) rfl ?_
          refine RO.opv (v' := .d (.int _ _)) (opv_assign rfl) rfl ?_
          refine RO.nil ?_
          refine Runs.has [(4, .ref 0 0), (5, .ref 1 0), (6, .ref 2 0), (7, .ref 3 0), (8, .d (.bool false)), (9, .d (.bool true)), (10, .d (.int _ _))] ⟨rfl, rfl, rfl, rfl, rfl, rfl, rfl, trivial⟩ ?_
          refine Runs.seq ?_
          refine Runs.rseq ?_
          refine RO.opv (v' := .d (.int _ _)) (opv_move rfl) rfl ?_
          refine RO.opc (opv_bin rfl rfl rfl) (fun h5 => ?_) (fun h5 => ?_)
          · try simp only [decide_eq_true_eq, decide_eq_false_iff_not, beq_iff_eq, beq_eq_false_iff_ne, bne_iff_ne, bne_eq_false_iff_eq, Int.not_lt, Int.not_le, ne_eq, Bool.not_eq_true', Bool.not_eq_false', gt_iff_lt, ge_iff_le] at h5
            have hx := h5
            refine RO.nil ?_
            refine Runs.condT rfl ?_
            refine Runs.has [(4, .ref 0 0), (5, .ref 1 0), (6, .ref 2 0), (7, .ref 3 0), (8, .d (.bool false)), (9, .d (.bool true)), (10, .d (.int _ _))] ⟨rfl, rfl, rfl, rfl, rfl, rfl, rfl, trivial⟩ ?_
            refine Runs.seq ?_
            refine Runs.drawn (by kernel_rfl) [] [false, false, false, false, false, false, false, false, false, false, false, false, false, false, false, false, false] [false, false, false, false, false, false, false, false, false, false, false, false, false, false, false, false, false] (by decide +kernel) ?_
            refine RD.opv (v' := .d (.bool true)) (opv_move rfl) rfl ?_
            refine RD.opv (v' := .d (.bool true)) (opv_move rfl) rfl ?_
            refine RD.opgv (v' := .d (enc _)) rfl (opv_load_term rfl rfl rfl) rfl ?_
            refine RD.opgv (v' := .d (enc _)) rfl (opv_load_term rfl rfl rfl) rfl ?_
            refine RD.opgv (v' := .d (.list (encs _))) rfl (opv_bs_term2 rfl rfl ) rfl ?_
            refine RD.opgv (v' := .d (enc _)) rfl (opv_callF (make_fn ⟨#[102]⟩ [a, c] (Nat.le_of_ble_eq_true rfl)) rfl rfl rfl trivial) rfl ?_
            refine RD.opgv (v' := .d (enc _)) rfl (opv_load_term rfl rfl rfl) rfl ?_
            refine RD.opgv (v' := .d (enc _)) rfl (opv_load_term rfl rfl rfl) rfl ?_
            refine RD.opgv (v' := .d (.list (encs _))) rfl (opv_bs_term2 rfl rfl ) rfl ?_
            refine RD.opgv (v' := .d (enc _)) rfl (opv_callF (make_fn ⟨#[102]⟩ [b, d] (Nat.le_of_ble_eq_true rfl)) rfl rfl rfl trivial) rfl ?_
            refine RD.opgv (v' := .d (.int _ _)) rfl (opv_callF (compare_fn (.node 3 0 ⟨#[102]⟩ [a, c]) (.node 3 0 ⟨#[102]⟩ [b, d]) (by show 1 + (a.bulk + (c.bulk + 0)) + 1 ≤ _; omega) (by show 1 + (b.bulk + (d.bulk + 0)) + 1 ≤ _; omega)) rfl rfl rfl trivial) rfl ?_
            refine RD.opgv (v' := .d (enc _)) rfl (opv_load_term rfl rfl rfl) rfl ?_
            refine RD.opgv (v' := .d (enc _)) rfl (opv_load_term rfl rfl rfl) rfl ?_
            refine RD.opgv (v' := .d (.int _ _)) rfl (opv_callF (compare_fn c d (by omega) (by omega)) rfl rfl rfl trivial) rfl ?_
            refine RD.opgv (v' := .d (.bool _)) rfl (opv_bin rfl rfl rfl) rfl ?_
            refine RD.opv (v' := .d (.bool _)) (opv_pick rfl rfl) rfl ?_
            refine RD.opv (v' := .d (.bool _)) (opv_assign rfl) rfl ?_
            refine RD.nil ?_
            refine thenQ_normal ?_
            refine Runs.ret ?_
            refine thenQ_ret ?_
            refine EndQ.tmp (.inr rfl) rfl rfl 0 (by exact Nat.le_refl _) (by exact Nat.zero_le _) trivial ⟨?_, rfl⟩
            first
              | rfl
              | (refine bool_eq ?_; rw [compare_pair, compare_refl]; unfold or2; rw [if_neg (fun hh => hh rfl)]; simp; done)
              | (refine bool_eq ?_; rw [compare_pair]; unfold or2; rw [if_neg (fun hh => hh hx)]; simp)
          · try simp only [decide_eq_true_eq, decide_eq_false_iff_not, beq_iff_eq, beq_eq_false_iff_ne, bne_iff_ne, bne_eq_false_iff_eq, Int.not_lt, Int.not_le, ne_eq, Bool.not_eq_true', Bool.not_eq_false', gt_iff_lt, ge_iff_le] at h5
            have hx := h5
            refine RO.nil ?_
            refine Runs.condF rfl ?_
            refine Runs.skip ?_
            refine thenQ_normal ?_
            refine Runs.has [(4, .ref 0 0), (5, .ref 1 0), (6, .ref 2 0), (7, .ref 3 0), (8, .d (.bool false)), (9, .d (.bool true)), (10, .d (.int _ _))] ⟨rfl, rfl, rfl, rfl, rfl, rfl, rfl, trivial⟩ ?_
            refine Runs.seq ?_
            refine Runs.drawn (by kernel_rfl) [] [false, false, false, false, false, false, false, false, false, false, false, false, false, false, false, false, false, false, false, false, false, false, false, false, false, false, false, false] [false, false, false, false, false, false, false, false, false, false, false, false, false, false, false, false, false, false, false, false, false, false, false, false, false, false, false, false] (by decide +kernel) ?_
            refine RD.opv (v' := .d (.bool true)) (opv_move rfl) rfl ?_
            refine RD.opv (v' := .d (.bool true)) (opv_move rfl) rfl ?_
            refine RD.opgv (v' := .d (enc _)) rfl (opv_load_term rfl rfl rfl) rfl ?_
            refine RD.opgv (v' := .d (enc _)) rfl (opv_load_term rfl rfl rfl) rfl ?_
            refine RD.opgv (v' := .d (.list (encs _))) rfl (opv_bs_term2 rfl rfl ) rfl ?_
            refine RD.opgv (v' := .d (enc _)) rfl (opv_callF (make_fn ⟨#[102]⟩ [a, c] (Nat.le_of_ble_eq_true rfl)) rfl rfl rfl trivial) rfl ?_
            refine RD.opgv (v' := .d (enc _)) rfl (opv_load_term rfl rfl rfl) rfl ?_
            refine RD.opgv (v' := .d (enc _)) rfl (opv_load_term rfl rfl rfl) rfl ?_
            refine RD.opgv (v' := .d (.list (encs _))) rfl (opv_bs_term2 rfl rfl ) rfl ?_
            refine RD.opgv (v' := .d (enc _)) rfl (opv_callF (make_fn ⟨#[102]⟩ [b, d] (Nat.le_of_ble_eq_true rfl)) rfl rfl rfl trivial) rfl ?_
            refine RD.opgv (v' := .d (.int _ _)) rfl (opv_callF (compare_fn (.node 3 0 ⟨#[102]⟩ [a, c]) (.node 3 0 ⟨#[102]⟩ [b, d]) (by show 1 + (a.bulk + (c.bulk + 0)) + 1 ≤ _; omega) (by show 1 + (b.bulk + (d.bulk + 0)) + 1 ≤ _; omega)) rfl rfl rfl trivial) rfl ?_
            refine RD.opgv (v' := .d (.int _ _)) rfl (opv_move rfl) rfl ?_
            refine RD.opgv (v' := .d (.bool _)) rfl (opv_bin rfl rfl rfl) rfl ?_
            refine RD.opv (v' := .d (.bool _)) (opv_pick rfl rfl) rfl ?_
            refine RD.opc (opv_move rfl) (fun h6 => ?_) (fun h6 => ?_)
            · try simp only [decide_eq_true_eq, decide_eq_false_iff_not, beq_iff_eq, beq_eq_false_iff_ne, bne_iff_ne, bne_eq_false_iff_eq, Int.not_lt, Int.not_le, ne_eq, Bool.not_eq_true', Bool.not_eq_false', gt_iff_lt, ge_iff_le] at h6
              refine RD.opgv (v' := .d (enc _)) rfl (opv_load_term rfl rfl rfl) rfl ?_
              refine RD.opgv (v' := .d (enc _)) rfl (opv_load_term rfl rfl rfl) rfl ?_
              refine RD.opgv (v' := .d (.list (encs _))) rfl (opv_bs_term2 rfl rfl ) rfl ?_
              refine RD.opgv (v' := .d (enc _)) rfl (opv_callF (make_fn ⟨#[102]⟩ [c, a] (Nat.le_of_ble_eq_true rfl)) rfl rfl rfl trivial) rfl ?_
              refine RD.opgv (v' := .d (enc _)) rfl (opv_load_term rfl rfl rfl) rfl ?_
              refine RD.opgv (v' := .d (enc _)) rfl (opv_load_term rfl rfl rfl) rfl ?_
              refine RD.opgv (v' := .d (.list (encs _))) rfl (opv_bs_term2 rfl rfl ) rfl ?_
              refine RD.opgv (v' := .d (enc _)) rfl (opv_callF (make_fn ⟨#[102]⟩ [c, b] (Nat.le_of_ble_eq_true rfl)) rfl rfl rfl trivial) rfl ?_
              refine RD.opgv (v' := .d (.int _ _)) rfl (opv_callF (compare_fn (.node 3 0 ⟨#[102]⟩ [c, a]) (.node 3 0 ⟨#[102]⟩ [c, b]) (by show 1 + (c.bulk + (a.bulk + 0)) + 1 ≤ _; omega) (by show 1 + (c.bulk + (b.bulk + 0)) + 1 ≤ _; omega)) rfl rfl rfl trivial) rfl ?_
              refine RD.opgv (v' := .d (.int _ _)) rfl (opv_move rfl) rfl ?_
              refine RD.opgv (v' := .d (.bool _)) rfl (opv_bin rfl rfl rfl) rfl ?_
              refine RD.opv (v' := .d (.bool _)) (opv_pick rfl rfl) rfl ?_
              refine RD.opv (v' := .d (.bool _)) (opv_assign rfl) rfl ?_
              refine RD.nil ?_
              refine thenQ_normal ?_
              refine Runs.ret ?_
              refine EndQ.tmp (.inr rfl) rfl rfl 0 (by exact Nat.le_refl _) (by exact Nat.zero_le _) trivial ⟨?_, rfl⟩
              first
                | rfl
                | (refine bool_eq ?_; rw [compare_pair, compare_refl]; unfold or2; rw [if_neg (fun hh => hh rfl)]; simp; done)
                | (refine bool_eq ?_; rw [compare_pair]; unfold or2; rw [if_neg (fun hh => hh hx)]; simp)
            · try simp only [decide_eq_true_eq, decide_eq_false_iff_not, beq_iff_eq, beq_eq_false_iff_ne, bne_iff_ne, bne_eq_false_iff_eq, Int.not_lt, Int.not_le, ne_eq, Bool.not_eq_true', Bool.not_eq_false', gt_iff_lt, ge_iff_le] at h6
              rw [compare_pair] at h6; unfold or2 at h6; rw [if_pos hx] at h6; exact absurd rfl h6
end Go.Proofs.Ythpiggjclhnkcaa.AM
