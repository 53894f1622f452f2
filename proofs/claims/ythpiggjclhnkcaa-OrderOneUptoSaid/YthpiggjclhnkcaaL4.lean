import Derived.Test.YthpiggjclhnkcaaL0
namespace Go.Proofs.Ythpiggjclhnkcaa.AM
open Go
set_option linter.unusedVariables false
set_option linter.unusedSimpArgs false
theorem or2_rng {x y : Int} (h : -1 ≤ x ∧ x ≤ 1) (h' : -1 ≤ y ∧ y ≤ 1) : -1 ≤ or2 x y ∧ or2 x y ≤ 1 := by unfold or2; split <;> assumption
theorem cmpI_rng (a b : Int) : -1 ≤ cmpI a b ∧ cmpI a b ≤ 1 := by unfold cmpI; split <;> (try split) <;> omega
theorem cmpS_rng (a b : ByteArray) : -1 ≤ cmpS a b ∧ cmpS a b ≤ 1 := by unfold cmpS; split <;> (try split) <;> omega
theorem orI_rng : ∀ {l : List Int}, (∀ x ∈ l, -1 ≤ x ∧ x ≤ 1) → -1 ≤ orI l ∧ orI l ≤ 1
  | [], _ => by unfold orI; omega
  | x :: l, h => by rw [orI_or2]; exact or2_rng (h x (List.mem_cons_self ..)) (orI_rng fun y hy => h y (List.mem_cons_of_mem _ hy))
theorem headC_rng (a b : Term) : -1 ≤ headC a b ∧ headC a b ≤ 1 := by
  unfold headC
  split
  · exact cmpI_rng _ _
  · split <;> refine orI_rng fun x hx => ?_ <;> simp only [List.mem_cons, List.not_mem_nil, or_false] at hx
    · rcases hx with rfl | rfl
      · exact cmpI_rng _ _
      · exact cmpS_rng _ _
    · rcases hx with rfl | rfl | rfl | rfl
      · exact cmpI_rng _ _
      · exact cmpI_rng _ _
      · exact cmpI_rng _ _
      · exact cmpS_rng _ _
mutual
theorem bare_rng : ∀ a b : Term, -1 ≤ a.bare b ∧ a.bare b ≤ 1
  | .node k n s ks, b => by
    rw [bare_or]
    refine or2_rng (headC_rng _ _) ?_
    split
    · omega
    · exact bares_rng ks b.kids
theorem bares_rng : ∀ l m : List Term, -1 ≤ bares l m ∧ bares l m ≤ 1
  | [], _ => by rw [bares]; omega
  | _ :: _, [] => by rw [bares]; omega
  | x :: l, y :: m => by rw [bares_cons]; exact or2_rng (bare_rng x y) (bares_rng l m)
end
theorem compare_rng (a b : Term) : -1 ≤ compareT a b ∧ compareT a b ≤ 1 := bare_rng _ _
theorem compare_neg64 (a b : Term) : IntKind.i64.wrap (0 - compareT a b) = -compareT a b := by
  have := compare_rng a b
  rw [wrap64 (by omega) (by omega)]; omega
theorem compare_tr (a b c : Term) : Tr (compareT a b) (compareT b c) (compareT a c) := bare_tr _ _ _

theorem orderOne_fn (a b c : Term) (g1 : a.bulk ≤ 2 ^ 20) (_g1' : a.fits) (g2 : b.bulk ≤ 2 ^ 20) (_g2' : b.fits) (g3 : c.bulk ≤ 2 ^ 20) (_g3' : c.fits) : Fn Try.prog 8 [.d (enc a), .d (enc b), .d (enc c)] [] (.d (.bool true)) [] := by
  have ea := erase_bulk a
  have eb := erase_bulk b
  have htr := compare_tr a b c
  have hng := compare_neg a b
  unfold Tr at htr
  refine Does.run Try.func8 rfl Try.ntmps8 rfl fun K hK => ?_
  refine Runs.rseq ?_
  refine RO.opn (v' := .ref 0 0) (O' := [_]) (opv_box_term rfl) rfl rfl ?_
  refine RO.opn (v' := .ref 1 0) (O' := [_, _]) (opv_box_term rfl) rfl rfl ?_
  refine RO.opn (v' := .ref 2 0) (O' := [_, _, _]) (opv_box_term rfl) rfl rfl ?_
  refine RO.opv (v' := .d (.bool false)) (opv_assign rfl) rfl ?_
  refine RO.nil ?_
  refine Runs.has [(3, .ref 0 0), (4, .ref 1 0), (5, .ref 2 0), (6, .d (.bool false))] ⟨rfl, rfl, rfl, rfl, trivial⟩ ?_
  refine Runs.rseq ?_
  refine RO.opv (v' := .d (.bool true)) (opv_callF (shown_fn) rfl rfl rfl trivial) rfl ?_
  refine RO.opv (v' := .d (.bool true)) (opv_assign rfl) rfl ?_
  refine RO.nil ?_
  refine Runs.has [(3, .ref 0 0), (4, .ref 1 0), (5, .ref 2 0), (6, .d (.bool false)), (7, .d (.bool true))] ⟨rfl, rfl, rfl, rfl, rfl, trivial⟩ ?_
  refine Runs.seq ?_
  refine Runs.rseq ?_
  refine RO.opv (v' := .d (enc _)) (opv_load_term rfl rfl rfl) rfl ?_
  refine RO.opv (v' := .d (.bool _)) (opv_callF (few_fn a (by omega)) rfl rfl rfl trivial) rfl ?_
  refine RO.opv (v' := .d (.bool _)) (opv_not rfl rfl) rfl ?_
  refine RO.opc (opv_move rfl) (fun h1 => ?_) (fun h1 => ?_)
  · try simp only [decide_eq_true_eq, decide_eq_false_iff_not, beq_iff_eq, beq_eq_false_iff_ne, bne_iff_ne, bne_eq_false_iff_eq, Int.not_lt, Int.not_le, ne_eq, Bool.not_eq_true', Bool.not_eq_false', gt_iff_lt, ge_iff_le] at h1
    refine RO.off rfl ?_
    refine RO.off rfl ?_
    refine RO.off rfl ?_
    refine RO.opv (v' := .d (.bool true)) (opv_pick rfl rfl) rfl ?_
    refine RO.opv (v' := .d (.bool true)) (opv_move rfl) rfl ?_
    refine RO.off rfl ?_
    refine RO.off rfl ?_
    refine RO.off rfl ?_
    refine RO.opv (v' := .d (.bool true)) (opv_pick rfl rfl) rfl ?_
    refine RO.nil ?_
    refine Runs.condT rfl ?_
    refine Runs.has [(3, .ref 0 0), (4, .ref 1 0), (5, .ref 2 0), (6, .d (.bool false)), (7, .d (.bool true))] ⟨rfl, rfl, rfl, rfl, rfl, trivial⟩ ?_
    refine Runs.rseq ?_
    refine RO.opv (v' := .d (.bool true)) (opv_move rfl) rfl ?_
    refine RO.opv (v' := .d (.bool true)) (opv_assign rfl) rfl ?_
    refine RO.nil ?_
    refine Runs.ret ?_
    refine thenQ_ret ?_
    refine EndQ.tmp (.inr rfl) rfl rfl 0 (by exact Nat.le_refl _) (by exact Nat.zero_le _) trivial ⟨?_, rfl⟩
    first
      | rfl
      | (refine bool_eq ?_; first | (rw [compare_refl]; rfl) | (exfalso; omega) | (simp; omega))
  · try simp only [decide_eq_true_eq, decide_eq_false_iff_not, beq_iff_eq, beq_eq_false_iff_ne, bne_iff_ne, bne_eq_false_iff_eq, Int.not_lt, Int.not_le, ne_eq, Bool.not_eq_true', Bool.not_eq_false', gt_iff_lt, ge_iff_le] at h1
    refine RO.opgv (v' := .d (enc _)) rfl (opv_load_term rfl rfl rfl) rfl ?_
    refine RO.opgv (v' := .d (.bool _)) rfl (opv_callF (few_fn b (by omega)) rfl rfl rfl trivial) rfl ?_
    refine RO.opgv (v' := .d (.bool _)) rfl (opv_not rfl rfl) rfl ?_
    refine RO.opv (v' := .d (.bool _)) (opv_pick rfl rfl) rfl ?_
    refine RO.opc (opv_move rfl) (fun h2 => ?_) (fun h2 => ?_)
    · try simp only [decide_eq_true_eq, decide_eq_false_iff_not, beq_iff_eq, beq_eq_false_iff_ne, bne_iff_ne, bne_eq_false_iff_eq, Int.not_lt, Int.not_le, ne_eq, Bool.not_eq_true', Bool.not_eq_false', gt_iff_lt, ge_iff_le] at h2
      refine RO.off rfl ?_
      refine RO.off rfl ?_
      refine RO.off rfl ?_
      refine RO.opv (v' := .d (.bool true)) (opv_pick rfl rfl) rfl ?_
      refine RO.nil ?_
      refine Runs.condT rfl ?_
      refine Runs.has [(3, .ref 0 0), (4, .ref 1 0), (5, .ref 2 0), (6, .d (.bool false)), (7, .d (.bool true))] ⟨rfl, rfl, rfl, rfl, rfl, trivial⟩ ?_
      refine Runs.rseq ?_
      refine RO.opv (v' := .d (.bool true)) (opv_move rfl) rfl ?_
      refine RO.opv (v' := .d (.bool true)) (opv_assign rfl) rfl ?_
      refine RO.nil ?_
      refine Runs.ret ?_
      refine thenQ_ret ?_
      refine EndQ.tmp (.inr rfl) rfl rfl 0 (by exact Nat.le_refl _) (by exact Nat.zero_le _) trivial ⟨?_, rfl⟩
      first
        | rfl
        | (refine bool_eq ?_; first | (rw [compare_refl]; rfl) | (exfalso; omega) | (simp; omega))
    · try simp only [decide_eq_true_eq, decide_eq_false_iff_not, beq_iff_eq, beq_eq_false_iff_ne, bne_iff_ne, bne_eq_false_iff_eq, Int.not_lt, Int.not_le, ne_eq, Bool.not_eq_true', Bool.not_eq_false', gt_iff_lt, ge_iff_le] at h2
      refine RO.opgv (v' := .d (enc _)) rfl (opv_load_term rfl rfl rfl) rfl ?_
      refine RO.opgv (v' := .d (.bool _)) rfl (opv_callF (few_fn c (by omega)) rfl rfl rfl trivial) rfl ?_
      refine RO.opgv (v' := .d (.bool _)) rfl (opv_not rfl rfl) rfl ?_
      refine RO.opc (opv_pick rfl rfl) (fun h3 => ?_) (fun h3 => ?_)
      · try simp only [decide_eq_true_eq, decide_eq_false_iff_not, beq_iff_eq, beq_eq_false_iff_ne, bne_iff_ne, bne_eq_false_iff_eq, Int.not_lt, Int.not_le, ne_eq, Bool.not_eq_true', Bool.not_eq_false', gt_iff_lt, ge_iff_le] at h3
        refine RO.nil ?_
        refine Runs.condT rfl ?_
        refine Runs.has [(3, .ref 0 0), (4, .ref 1 0), (5, .ref 2 0), (6, .d (.bool false)), (7, .d (.bool true))] ⟨rfl, rfl, rfl, rfl, rfl, trivial⟩ ?_
        refine Runs.rseq ?_
        refine RO.opv (v' := .d (.bool true)) (opv_move rfl) rfl ?_
        refine RO.opv (v' := .d (.bool true)) (opv_assign rfl) rfl ?_
        refine RO.nil ?_
        refine Runs.ret ?_
        refine thenQ_ret ?_
        refine EndQ.tmp (.inr rfl) rfl rfl 0 (by exact Nat.le_refl _) (by exact Nat.zero_le _) trivial ⟨?_, rfl⟩
        first
          | rfl
          | (refine bool_eq ?_; first | (rw [compare_refl]; rfl) | (exfalso; omega) | (simp; omega))
      · try simp only [decide_eq_true_eq, decide_eq_false_iff_not, beq_iff_eq, beq_eq_false_iff_ne, bne_iff_ne, bne_eq_false_iff_eq, Int.not_lt, Int.not_le, ne_eq, Bool.not_eq_true', Bool.not_eq_false', gt_iff_lt, ge_iff_le] at h3
        refine RO.nil ?_
        refine Runs.condF rfl ?_
        refine Runs.skip ?_
        refine thenQ_normal ?_
        refine Runs.has [(3, .ref 0 0), (4, .ref 1 0), (5, .ref 2 0), (6, .d (.bool false)), (7, .d (.bool true))] ⟨rfl, rfl, rfl, rfl, rfl, trivial⟩ ?_
        refine Runs.rseq ?_
        refine RO.opv (v' := .d (enc _)) (opv_load_term rfl rfl rfl) rfl ?_
        refine RO.opv (v' := .d (enc _)) (opv_load_term rfl rfl rfl) rfl ?_
        refine RO.opv (v' := .d (.int _ _)) (opv_callF (compare_fn a b (by omega) (by omega)) rfl rfl rfl trivial) rfl ?_
        refine RO.opv (v' := .d (.int _ _)) (opv_assign rfl) rfl ?_
        refine RO.nil ?_
        refine Runs.has [(3, .ref 0 0), (4, .ref 1 0), (5, .ref 2 0), (6, .d (.bool false)), (7, .d (.bool true)), (8, .d (.int _ _))] ⟨rfl, rfl, rfl, rfl, rfl, rfl, trivial⟩ ?_
        refine Runs.rseq ?_
        refine RO.opv (v' := .d (enc _)) (opv_load_term rfl rfl rfl) rfl ?_
        refine RO.opv (v' := .d (enc _)) (opv_load_term rfl rfl rfl) rfl ?_
        refine RO.opv (v' := .d (.int _ _)) (opv_callF (compare_fn b c (by omega) (by omega)) rfl rfl rfl trivial) rfl ?_
        refine RO.opv (v' := .d (.int _ _)) (opv_assign rfl) rfl ?_
        refine RO.nil ?_
        refine Runs.has [(3, .ref 0 0), (4, .ref 1 0), (5, .ref 2 0), (6, .d (.bool false)), (7, .d (.bool true)), (8, .d (.int _ _)), (9, .d (.int _ _))] ⟨rfl, rfl, rfl, rfl, rfl, rfl, rfl, trivial⟩ ?_
        refine Runs.rseq ?_
        refine RO.opv (v' := .d (enc _)) (opv_load_term rfl rfl rfl) rfl ?_
        refine RO.opv (v' := .d (enc _)) (opv_load_term rfl rfl rfl) rfl ?_
        refine RO.opv (v' := .d (.int _ _)) (opv_callF (compare_fn a c (by omega) (by omega)) rfl rfl rfl trivial) rfl ?_
        refine RO.opv (v' := .d (.int _ _)) (opv_assign rfl) rfl ?_
        refine RO.nil ?_
        refine Runs.has [(3, .ref 0 0), (4, .ref 1 0), (6, .d (.bool false)), (7, .d (.bool true)), (8, .d (.int _ _)), (9, .d (.int _ _)), (10, .d (.int _ _))] ⟨rfl, rfl, rfl, rfl, rfl, rfl, rfl, trivial⟩ ?_
        refine Runs.seq ?_
        refine Runs.seq ?_
        refine Runs.drawn (by kernel_rfl) [] [false, false, false, false, false, false, false, false, false, false, false, false, false, false, false, false, false, false, false, false, false, false, false, false, false, false] [false, false, false, false, false, false, false, false, false, false, false, false, false, false, false, false, false, false, false, false, false, false, false, false, false, false] (by decide +kernel) ?_
        refine RD.opv (v' := .d (enc _)) (opv_load_term rfl rfl rfl) rfl ?_
        refine RD.opv (v' := .d (enc _)) (opv_load_term rfl rfl rfl) rfl ?_
        refine RD.opv (v' := .d (.int _ _)) (opv_callF (compare_fn b a (by omega) (by omega)) rfl rfl rfl trivial) rfl ?_
        refine RD.opv (v' := .d (.int _ _)) (opv_move rfl) rfl ?_
        refine RD.opv (v' := .d (.int _ _)) (opv_neg (r := -compareT a b) rfl (compare_neg64 a b)) rfl ?_
        refine RD.opv (v' := .d (.bool _)) (opv_bin rfl rfl rfl) rfl ?_
        refine RD.opc (opv_move rfl) (fun h4 => ?_) (fun h4 => ?_)
        · try simp only [decide_eq_true_eq, decide_eq_false_iff_not, beq_iff_eq, beq_eq_false_iff_ne, bne_iff_ne, bne_eq_false_iff_eq, Int.not_lt, Int.not_le, ne_eq, Bool.not_eq_true', Bool.not_eq_false', gt_iff_lt, ge_iff_le] at h4
          exact absurd hng h4
        · try simp only [decide_eq_true_eq, decide_eq_false_iff_not, beq_iff_eq, beq_eq_false_iff_ne, bne_iff_ne, bne_eq_false_iff_eq, Int.not_lt, Int.not_le, ne_eq, Bool.not_eq_true', Bool.not_eq_false', gt_iff_lt, ge_iff_le] at h4
          refine RD.opgv (v' := .d (enc _)) rfl (opv_load_term rfl rfl rfl) rfl ?_
          refine RD.opgv (v' := .d (.int _ _)) rfl (opv_callF (check_fn a 16 (by omega)) rfl rfl rfl trivial) rfl ?_
          refine RD.opgv (v' := .d (.bool _)) rfl (opv_bin rfl rfl rfl) rfl ?_
          refine RD.opgc rfl (opv_move rfl) (fun h5 => ?_) (fun h5 => ?_)
          · try simp only [decide_eq_true_eq, decide_eq_false_iff_not, beq_iff_eq, beq_eq_false_iff_ne, bne_iff_ne, bne_eq_false_iff_eq, Int.not_lt, Int.not_le, ne_eq, Bool.not_eq_true', Bool.not_eq_false', gt_iff_lt, ge_iff_le] at h5
            have hca := h5
            refine RD.opgv (v' := .d (enc _)) rfl (opv_load_term rfl rfl rfl) rfl ?_
            refine RD.opgv (v' := .d (.int _ _)) rfl (opv_callF (check_fn b 16 (by omega)) rfl rfl rfl trivial) rfl ?_
            refine RD.opgv (v' := .d (.bool _)) rfl (opv_bin rfl rfl rfl) rfl ?_
            refine RD.opgv (v' := .d (.bool _)) rfl (opv_pick rfl rfl) rfl ?_
            refine RD.opgc rfl (opv_move rfl) (fun h6 => ?_) (fun h6 => ?_)
            · try simp only [decide_eq_true_eq, decide_eq_false_iff_not, beq_iff_eq, beq_eq_false_iff_ne, bne_iff_ne, bne_eq_false_iff_eq, Int.not_lt, Int.not_le, ne_eq, Bool.not_eq_true', Bool.not_eq_false', gt_iff_lt, ge_iff_le] at h6
              have hcb := h6
              refine RD.opgv (v' := .d (.int _ _)) rfl (opv_move rfl) rfl ?_
              refine RD.opgv (v' := .d (.bool _)) rfl (opv_bin rfl rfl rfl) rfl ?_
              refine RD.opgv (v' := .d (enc _)) rfl (opv_load_term rfl rfl rfl) rfl ?_
              refine RD.opgv (v' := .d (enc _)) rfl (opv_callF (erase_fn a (by omega)) rfl rfl rfl trivial) rfl ?_
              refine RD.opgv (v' := .d (enc _)) rfl (opv_load_term rfl rfl rfl) rfl ?_
              refine RD.opgv (v' := .d (enc _)) rfl (opv_callF (erase_fn b (by omega)) rfl rfl rfl trivial) rfl ?_
              refine RD.opgv (v' := .d (.bool _)) rfl (opv_callF (same_fn a.erase b.erase (by omega) (by omega)) rfl rfl rfl trivial) rfl ?_
              refine RD.opgv (v' := .d (.bool _)) rfl (opv_bool rfl rfl rfl) rfl ?_
              refine RD.opgv (v' := .d (.bool _)) rfl (opv_pick rfl rfl) rfl ?_
              refine RD.opc (opv_pick rfl rfl) (fun h7 => ?_) (fun h7 => ?_)
              · try simp only [decide_eq_true_eq, decide_eq_false_iff_not, beq_iff_eq, beq_eq_false_iff_ne, bne_iff_ne, bne_eq_false_iff_eq, Int.not_lt, Int.not_le, ne_eq, Bool.not_eq_true', Bool.not_eq_false', gt_iff_lt, ge_iff_le] at h7
                have hz := compare_zero hca hcb; exact absurd (by rw [Bool.eq_iff_iff, beq_iff_eq, same_iff]; exact hz) h7
              · try simp only [decide_eq_true_eq, decide_eq_false_iff_not, beq_iff_eq, beq_eq_false_iff_ne, bne_iff_ne, bne_eq_false_iff_eq, Int.not_lt, Int.not_le, ne_eq, Bool.not_eq_true', Bool.not_eq_false', gt_iff_lt, ge_iff_le] at h7
                refine RD.nil ?_
                refine thenQ_normal ?_
                refine Runs.condF rfl ?_
                refine Runs.skip ?_
                refine thenQ_normal ?_
                refine Runs.has [(3, .ref 0 0), (6, .d (.bool false)), (7, .d (.bool true)), (8, .d (.int _ _)), (9, .d (.int _ _)), (10, .d (.int _ _))] ⟨rfl, rfl, rfl, rfl, rfl, rfl, trivial⟩ ?_
                refine Runs.rseq ?_
                refine RO.opv (v' := .d (.bool true)) (opv_move rfl) rfl ?_
                refine RO.opv (v' := .d (.bool true)) (opv_move rfl) rfl ?_
                refine RO.opgv (v' := .d (.int _ _)) rfl (opv_move rfl) rfl ?_
                refine RO.opgv (v' := .d (.bool _)) rfl (opv_bin rfl rfl rfl) rfl ?_
                refine RO.opgc rfl (opv_move rfl) (fun h8 => ?_) (fun h8 => ?_)
                · try simp only [decide_eq_true_eq, decide_eq_false_iff_not, beq_iff_eq, beq_eq_false_iff_ne, bne_iff_ne, bne_eq_false_iff_eq, Int.not_lt, Int.not_le, ne_eq, Bool.not_eq_true', Bool.not_eq_false', gt_iff_lt, ge_iff_le] at h8
                  refine RO.off rfl ?_
                  refine RO.off rfl ?_
                  refine RO.opgv (v' := .d (.bool true)) rfl (opv_pick rfl rfl) rfl ?_
                  refine RO.opgv (v' := .d (.bool true)) rfl (opv_move rfl) rfl ?_
                  refine RO.off rfl ?_
                  refine RO.off rfl ?_
                  refine RO.opgv (v' := .d (.bool true)) rfl (opv_pick rfl rfl) rfl ?_
                  refine RO.opv (v' := .d (.bool true)) (opv_pick rfl rfl) rfl ?_
                  refine RO.opv (v' := .d (.bool true)) (opv_move rfl) rfl ?_
                  refine RO.opgv (v' := .d (.int _ _)) rfl (opv_move rfl) rfl ?_
                  refine RO.opgv (v' := .d (.bool _)) rfl (opv_bin rfl rfl rfl) rfl ?_
                  refine RO.opgc rfl (opv_move rfl) (fun h9 => ?_) (fun h9 => ?_)
                  · try simp only [decide_eq_true_eq, decide_eq_false_iff_not, beq_iff_eq, beq_eq_false_iff_ne, bne_iff_ne, bne_eq_false_iff_eq, Int.not_lt, Int.not_le, ne_eq, Bool.not_eq_true', Bool.not_eq_false', gt_iff_lt, ge_iff_le] at h9
                    refine RO.off rfl ?_
                    refine RO.off rfl ?_
                    refine RO.opgv (v' := .d (.bool true)) rfl (opv_pick rfl rfl) rfl ?_
                    refine RO.opgv (v' := .d (.bool true)) rfl (opv_move rfl) rfl ?_
                    refine RO.off rfl ?_
                    refine RO.off rfl ?_
                    refine RO.opgv (v' := .d (.bool true)) rfl (opv_pick rfl rfl) rfl ?_
                    refine RO.opv (v' := .d (.bool true)) (opv_pick rfl rfl) rfl ?_
                    refine RO.opv (v' := .d (.bool true)) (opv_move rfl) rfl ?_
                    refine RO.opgv (v' := .d (enc _)) rfl (opv_load_term rfl rfl rfl) rfl ?_
                    refine RO.opgv (v' := .d (enc _)) rfl (opv_load_term rfl rfl rfl) rfl ?_
                    refine RO.opgv (v' := .d (.int _ _)) rfl (opv_callF (compare_fn a a (by omega) (by omega)) rfl rfl rfl trivial) rfl ?_
                    refine RO.opgv (v' := .d (.bool _)) rfl (opv_bin rfl rfl rfl) rfl ?_
                    refine RO.opv (v' := .d (.bool _)) (opv_pick rfl rfl) rfl ?_
                    refine RO.opv (v' := .d (.bool _)) (opv_assign rfl) rfl ?_
                    refine RO.nil ?_
                    refine Runs.ret ?_
                    refine EndQ.tmp (.inr rfl) rfl rfl 0 (by exact Nat.le_refl _) (by exact Nat.zero_le _) trivial ⟨?_, rfl⟩
                    first
                      | rfl
                      | (refine bool_eq ?_; first | (rw [compare_refl]; rfl) | (exfalso; omega) | (simp; omega))
                  · try simp only [decide_eq_true_eq, decide_eq_false_iff_not, beq_iff_eq, beq_eq_false_iff_ne, bne_iff_ne, bne_eq_false_iff_eq, Int.not_lt, Int.not_le, ne_eq, Bool.not_eq_true', Bool.not_eq_false', gt_iff_lt, ge_iff_le] at h9
                    refine RO.opgv (v' := .d (.int _ _)) rfl (opv_move rfl) rfl ?_
                    refine RO.opgv (v' := .d (.bool _)) rfl (opv_bin rfl rfl rfl) rfl ?_
                    refine RO.opgv (v' := .d (.bool _)) rfl (opv_pick rfl rfl) rfl ?_
                    refine RO.opgc rfl (opv_move rfl) (fun h10 => ?_) (fun h10 => ?_)
                    · try simp only [decide_eq_true_eq, decide_eq_false_iff_not, beq_iff_eq, beq_eq_false_iff_ne, bne_iff_ne, bne_eq_false_iff_eq, Int.not_lt, Int.not_le, ne_eq, Bool.not_eq_true', Bool.not_eq_false', gt_iff_lt, ge_iff_le] at h10
                      refine RO.off rfl ?_
                      refine RO.off rfl ?_
                      refine RO.opgv (v' := .d (.bool true)) rfl (opv_pick rfl rfl) rfl ?_
                      refine RO.opv (v' := .d (.bool true)) (opv_pick rfl rfl) rfl ?_
                      refine RO.opv (v' := .d (.bool true)) (opv_move rfl) rfl ?_
                      refine RO.opgv (v' := .d (enc _)) rfl (opv_load_term rfl rfl rfl) rfl ?_
                      refine RO.opgv (v' := .d (enc _)) rfl (opv_load_term rfl rfl rfl) rfl ?_
                      refine RO.opgv (v' := .d (.int _ _)) rfl (opv_callF (compare_fn a a (by omega) (by omega)) rfl rfl rfl trivial) rfl ?_
                      refine RO.opgv (v' := .d (.bool _)) rfl (opv_bin rfl rfl rfl) rfl ?_
                      refine RO.opv (v' := .d (.bool _)) (opv_pick rfl rfl) rfl ?_
                      refine RO.opv (v' := .d (.bool _)) (opv_assign rfl) rfl ?_
                      refine RO.nil ?_
                      refine Runs.ret ?_
                      refine EndQ.tmp (.inr rfl) rfl rfl 0 (by exact Nat.le_refl _) (by exact Nat.zero_le _) trivial ⟨?_, rfl⟩
                      first
                        | rfl
                        | (refine bool_eq ?_; first | (rw [compare_refl]; rfl) | (exfalso; omega) | (simp; omega))
                    · try simp only [decide_eq_true_eq, decide_eq_false_iff_not, beq_iff_eq, beq_eq_false_iff_ne, bne_iff_ne, bne_eq_false_iff_eq, Int.not_lt, Int.not_le, ne_eq, Bool.not_eq_true', Bool.not_eq_false', gt_iff_lt, ge_iff_le] at h10
                      refine RO.opgv (v' := .d (.int _ _)) rfl (opv_move rfl) rfl ?_
                      refine RO.opgv (v' := .d (.bool _)) rfl (opv_bin rfl rfl rfl) rfl ?_
                      refine RO.opgv (v' := .d (.bool _)) rfl (opv_pick rfl rfl) rfl ?_
                      refine RO.opv (v' := .d (.bool _)) (opv_pick rfl rfl) rfl ?_
                      refine RO.opc (opv_move rfl) (fun h11 => ?_) (fun h11 => ?_)
                      · try simp only [decide_eq_true_eq, decide_eq_false_iff_not, beq_iff_eq, beq_eq_false_iff_ne, bne_iff_ne, bne_eq_false_iff_eq, Int.not_lt, Int.not_le, ne_eq, Bool.not_eq_true', Bool.not_eq_false', gt_iff_lt, ge_iff_le] at h11
                        refine RO.opgv (v' := .d (enc _)) rfl (opv_load_term rfl rfl rfl) rfl ?_
                        refine RO.opgv (v' := .d (enc _)) rfl (opv_load_term rfl rfl rfl) rfl ?_
                        refine RO.opgv (v' := .d (.int _ _)) rfl (opv_callF (compare_fn a a (by omega) (by omega)) rfl rfl rfl trivial) rfl ?_
                        refine RO.opgv (v' := .d (.bool _)) rfl (opv_bin rfl rfl rfl) rfl ?_
                        refine RO.opv (v' := .d (.bool _)) (opv_pick rfl rfl) rfl ?_
                        refine RO.opv (v' := .d (.bool _)) (opv_assign rfl) rfl ?_
                        refine RO.nil ?_
                        refine Runs.ret ?_
                        refine EndQ.tmp (.inr rfl) rfl rfl 0 (by exact Nat.le_refl _) (by exact Nat.zero_le _) trivial ⟨?_, rfl⟩
                        first
                          | rfl
                          | (refine bool_eq ?_; first | (rw [compare_refl]; rfl) | (exfalso; omega) | (simp; omega))
                      · try simp only [decide_eq_true_eq, decide_eq_false_iff_not, beq_iff_eq, beq_eq_false_iff_ne, bne_iff_ne, bne_eq_false_iff_eq, Int.not_lt, Int.not_le, ne_eq, Bool.not_eq_true', Bool.not_eq_false', gt_iff_lt, ge_iff_le] at h11
                        refine RO.off rfl ?_
                        refine RO.off rfl ?_
                        refine RO.off rfl ?_
                        refine RO.off rfl ?_
                        refine RO.opv (v' := .d (.bool false)) (opv_pick rfl rfl) rfl ?_
                        refine RO.opv (v' := .d (.bool false)) (opv_assign rfl) rfl ?_
                        refine RO.nil ?_
                        refine Runs.ret ?_
                        refine EndQ.tmp (.inr rfl) rfl rfl 0 (by exact Nat.le_refl _) (by exact Nat.zero_le _) trivial ⟨?_, rfl⟩
                        first
                          | rfl
                          | (refine bool_eq ?_; first | (rw [compare_refl]; rfl) | (exfalso; omega) | (simp; omega))
                · try simp only [decide_eq_true_eq, decide_eq_false_iff_not, beq_iff_eq, beq_eq_false_iff_ne, bne_iff_ne, bne_eq_false_iff_eq, Int.not_lt, Int.not_le, ne_eq, Bool.not_eq_true', Bool.not_eq_false', gt_iff_lt, ge_iff_le] at h8
                  refine RO.opgv (v' := .d (.int _ _)) rfl (opv_move rfl) rfl ?_
                  refine RO.opgv (v' := .d (.bool _)) rfl (opv_bin rfl rfl rfl) rfl ?_
                  refine RO.opgv (v' := .d (.bool _)) rfl (opv_pick rfl rfl) rfl ?_
                  refine RO.opgc rfl (opv_move rfl) (fun h12 => ?_) (fun h12 => ?_)
                  · try simp only [decide_eq_true_eq, decide_eq_false_iff_not, beq_iff_eq, beq_eq_false_iff_ne, bne_iff_ne, bne_eq_false_iff_eq, Int.not_lt, Int.not_le, ne_eq, Bool.not_eq_true', Bool.not_eq_false', gt_iff_lt, ge_iff_le] at h12
                    refine RO.off rfl ?_
                    refine RO.off rfl ?_
                    refine RO.opgv (v' := .d (.bool true)) rfl (opv_pick rfl rfl) rfl ?_
                    refine RO.opv (v' := .d (.bool true)) (opv_pick rfl rfl) rfl ?_
                    refine RO.opv (v' := .d (.bool true)) (opv_move rfl) rfl ?_
                    refine RO.opgv (v' := .d (.int _ _)) rfl (opv_move rfl) rfl ?_
                    refine RO.opgv (v' := .d (.bool _)) rfl (opv_bin rfl rfl rfl) rfl ?_
                    refine RO.opgc rfl (opv_move rfl) (fun h13 => ?_) (fun h13 => ?_)
                    · try simp only [decide_eq_true_eq, decide_eq_false_iff_not, beq_iff_eq, beq_eq_false_iff_ne, bne_iff_ne, bne_eq_false_iff_eq, Int.not_lt, Int.not_le, ne_eq, Bool.not_eq_true', Bool.not_eq_false', gt_iff_lt, ge_iff_le] at h13
                      refine RO.off rfl ?_
                      refine RO.off rfl ?_
                      refine RO.opgv (v' := .d (.bool true)) rfl (opv_pick rfl rfl) rfl ?_
                      refine RO.opgv (v' := .d (.bool true)) rfl (opv_move rfl) rfl ?_
                      refine RO.off rfl ?_
                      refine RO.off rfl ?_
                      refine RO.opgv (v' := .d (.bool true)) rfl (opv_pick rfl rfl) rfl ?_
                      refine RO.opv (v' := .d (.bool true)) (opv_pick rfl rfl) rfl ?_
                      refine RO.opv (v' := .d (.bool true)) (opv_move rfl) rfl ?_
                      refine RO.opgv (v' := .d (enc _)) rfl (opv_load_term rfl rfl rfl) rfl ?_
                      refine RO.opgv (v' := .d (enc _)) rfl (opv_load_term rfl rfl rfl) rfl ?_
                      refine RO.opgv (v' := .d (.int _ _)) rfl (opv_callF (compare_fn a a (by omega) (by omega)) rfl rfl rfl trivial) rfl ?_
                      refine RO.opgv (v' := .d (.bool _)) rfl (opv_bin rfl rfl rfl) rfl ?_
                      refine RO.opv (v' := .d (.bool _)) (opv_pick rfl rfl) rfl ?_
                      refine RO.opv (v' := .d (.bool _)) (opv_assign rfl) rfl ?_
                      refine RO.nil ?_
                      refine Runs.ret ?_
                      refine EndQ.tmp (.inr rfl) rfl rfl 0 (by exact Nat.le_refl _) (by exact Nat.zero_le _) trivial ⟨?_, rfl⟩
                      first
                        | rfl
                        | (refine bool_eq ?_; first | (rw [compare_refl]; rfl) | (exfalso; omega) | (simp; omega))
                    · try simp only [decide_eq_true_eq, decide_eq_false_iff_not, beq_iff_eq, beq_eq_false_iff_ne, bne_iff_ne, bne_eq_false_iff_eq, Int.not_lt, Int.not_le, ne_eq, Bool.not_eq_true', Bool.not_eq_false', gt_iff_lt, ge_iff_le] at h13
                      refine RO.opgv (v' := .d (.int _ _)) rfl (opv_move rfl) rfl ?_
                      refine RO.opgv (v' := .d (.bool _)) rfl (opv_bin rfl rfl rfl) rfl ?_
                      refine RO.opgv (v' := .d (.bool _)) rfl (opv_pick rfl rfl) rfl ?_
                      refine RO.opgc rfl (opv_move rfl) (fun h14 => ?_) (fun h14 => ?_)
                      · try simp only [decide_eq_true_eq, decide_eq_false_iff_not, beq_iff_eq, beq_eq_false_iff_ne, bne_iff_ne, bne_eq_false_iff_eq, Int.not_lt, Int.not_le, ne_eq, Bool.not_eq_true', Bool.not_eq_false', gt_iff_lt, ge_iff_le] at h14
                        refine RO.off rfl ?_
                        refine RO.off rfl ?_
                        refine RO.opgv (v' := .d (.bool true)) rfl (opv_pick rfl rfl) rfl ?_
                        refine RO.opv (v' := .d (.bool true)) (opv_pick rfl rfl) rfl ?_
                        refine RO.opv (v' := .d (.bool true)) (opv_move rfl) rfl ?_
                        refine RO.opgv (v' := .d (enc _)) rfl (opv_load_term rfl rfl rfl) rfl ?_
                        refine RO.opgv (v' := .d (enc _)) rfl (opv_load_term rfl rfl rfl) rfl ?_
                        refine RO.opgv (v' := .d (.int _ _)) rfl (opv_callF (compare_fn a a (by omega) (by omega)) rfl rfl rfl trivial) rfl ?_
                        refine RO.opgv (v' := .d (.bool _)) rfl (opv_bin rfl rfl rfl) rfl ?_
                        refine RO.opv (v' := .d (.bool _)) (opv_pick rfl rfl) rfl ?_
                        refine RO.opv (v' := .d (.bool _)) (opv_assign rfl) rfl ?_
                        refine RO.nil ?_
                        refine Runs.ret ?_
                        refine EndQ.tmp (.inr rfl) rfl rfl 0 (by exact Nat.le_refl _) (by exact Nat.zero_le _) trivial ⟨?_, rfl⟩
                        first
                          | rfl
                          | (refine bool_eq ?_; first | (rw [compare_refl]; rfl) | (exfalso; omega) | (simp; omega))
                      · try simp only [decide_eq_true_eq, decide_eq_false_iff_not, beq_iff_eq, beq_eq_false_iff_ne, bne_iff_ne, bne_eq_false_iff_eq, Int.not_lt, Int.not_le, ne_eq, Bool.not_eq_true', Bool.not_eq_false', gt_iff_lt, ge_iff_le] at h14
                        refine RO.opgv (v' := .d (.int _ _)) rfl (opv_move rfl) rfl ?_
                        refine RO.opgv (v' := .d (.bool _)) rfl (opv_bin rfl rfl rfl) rfl ?_
                        refine RO.opgv (v' := .d (.bool _)) rfl (opv_pick rfl rfl) rfl ?_
                        refine RO.opv (v' := .d (.bool _)) (opv_pick rfl rfl) rfl ?_
                        refine RO.opc (opv_move rfl) (fun h15 => ?_) (fun h15 => ?_)
                        · try simp only [decide_eq_true_eq, decide_eq_false_iff_not, beq_iff_eq, beq_eq_false_iff_ne, bne_iff_ne, bne_eq_false_iff_eq, Int.not_lt, Int.not_le, ne_eq, Bool.not_eq_true', Bool.not_eq_false', gt_iff_lt, ge_iff_le] at h15
                          refine RO.opgv (v' := .d (enc _)) rfl (opv_load_term rfl rfl rfl) rfl ?_
                          refine RO.opgv (v' := .d (enc _)) rfl (opv_load_term rfl rfl rfl) rfl ?_
                          refine RO.opgv (v' := .d (.int _ _)) rfl (opv_callF (compare_fn a a (by omega) (by omega)) rfl rfl rfl trivial) rfl ?_
                          refine RO.opgv (v' := .d (.bool _)) rfl (opv_bin rfl rfl rfl) rfl ?_
                          refine RO.opv (v' := .d (.bool _)) (opv_pick rfl rfl) rfl ?_
                          refine RO.opv (v' := .d (.bool _)) (opv_assign rfl) rfl ?_
                          refine RO.nil ?_
                          refine Runs.ret ?_
                          refine EndQ.tmp (.inr rfl) rfl rfl 0 (by exact Nat.le_refl _) (by exact Nat.zero_le _) trivial ⟨?_, rfl⟩
                          first
                            | rfl
                            | (refine bool_eq ?_; first | (rw [compare_refl]; rfl) | (exfalso; omega) | (simp; omega))
                        · try simp only [decide_eq_true_eq, decide_eq_false_iff_not, beq_iff_eq, beq_eq_false_iff_ne, bne_iff_ne, bne_eq_false_iff_eq, Int.not_lt, Int.not_le, ne_eq, Bool.not_eq_true', Bool.not_eq_false', gt_iff_lt, ge_iff_le] at h15
                          refine RO.off rfl ?_
                          refine RO.off rfl ?_
                          refine RO.off rfl ?_
                          refine RO.off rfl ?_
                          refine RO.opv (v' := .d (.bool false)) (opv_pick rfl rfl) rfl ?_
                          refine RO.opv (v' := .d (.bool false)) (opv_assign rfl) rfl ?_
                          refine RO.nil ?_
                          refine Runs.ret ?_
                          refine EndQ.tmp (.inr rfl) rfl rfl 0 (by exact Nat.le_refl _) (by exact Nat.zero_le _) trivial ⟨?_, rfl⟩
                          first
                            | rfl
                            | (refine bool_eq ?_; first | (rw [compare_refl]; rfl) | (exfalso; omega) | (simp; omega))
                  · try simp only [decide_eq_true_eq, decide_eq_false_iff_not, beq_iff_eq, beq_eq_false_iff_ne, bne_iff_ne, bne_eq_false_iff_eq, Int.not_lt, Int.not_le, ne_eq, Bool.not_eq_true', Bool.not_eq_false', gt_iff_lt, ge_iff_le] at h12
                    refine RO.opgv (v' := .d (.int _ _)) rfl (opv_move rfl) rfl ?_
                    refine RO.opgv (v' := .d (.bool _)) rfl (opv_bin rfl rfl rfl) rfl ?_
                    refine RO.opgv (v' := .d (.bool _)) rfl (opv_pick rfl rfl) rfl ?_
                    refine RO.opv (v' := .d (.bool _)) (opv_pick rfl rfl) rfl ?_
                    refine RO.opc (opv_move rfl) (fun h16 => ?_) (fun h16 => ?_)
                    · try simp only [decide_eq_true_eq, decide_eq_false_iff_not, beq_iff_eq, beq_eq_false_iff_ne, bne_iff_ne, bne_eq_false_iff_eq, Int.not_lt, Int.not_le, ne_eq, Bool.not_eq_true', Bool.not_eq_false', gt_iff_lt, ge_iff_le] at h16
                      refine RO.opgv (v' := .d (.int _ _)) rfl (opv_move rfl) rfl ?_
                      refine RO.opgv (v' := .d (.bool _)) rfl (opv_bin rfl rfl rfl) rfl ?_
                      refine RO.opgc rfl (opv_move rfl) (fun h17 => ?_) (fun h17 => ?_)
                      · try simp only [decide_eq_true_eq, decide_eq_false_iff_not, beq_iff_eq, beq_eq_false_iff_ne, bne_iff_ne, bne_eq_false_iff_eq, Int.not_lt, Int.not_le, ne_eq, Bool.not_eq_true', Bool.not_eq_false', gt_iff_lt, ge_iff_le] at h17
                        refine RO.off rfl ?_
                        refine RO.off rfl ?_
                        refine RO.opgv (v' := .d (.bool true)) rfl (opv_pick rfl rfl) rfl ?_
                        refine RO.opgv (v' := .d (.bool true)) rfl (opv_move rfl) rfl ?_
                        refine RO.off rfl ?_
                        refine RO.off rfl ?_
                        refine RO.opgv (v' := .d (.bool true)) rfl (opv_pick rfl rfl) rfl ?_
                        refine RO.opv (v' := .d (.bool true)) (opv_pick rfl rfl) rfl ?_
                        refine RO.opv (v' := .d (.bool true)) (opv_move rfl) rfl ?_
                        refine RO.opgv (v' := .d (enc _)) rfl (opv_load_term rfl rfl rfl) rfl ?_
                        refine RO.opgv (v' := .d (enc _)) rfl (opv_load_term rfl rfl rfl) rfl ?_
                        refine RO.opgv (v' := .d (.int _ _)) rfl (opv_callF (compare_fn a a (by omega) (by omega)) rfl rfl rfl trivial) rfl ?_
                        refine RO.opgv (v' := .d (.bool _)) rfl (opv_bin rfl rfl rfl) rfl ?_
                        refine RO.opv (v' := .d (.bool _)) (opv_pick rfl rfl) rfl ?_
                        refine RO.opv (v' := .d (.bool _)) (opv_assign rfl) rfl ?_
                        refine RO.nil ?_
                        refine Runs.ret ?_
                        refine EndQ.tmp (.inr rfl) rfl rfl 0 (by exact Nat.le_refl _) (by exact Nat.zero_le _) trivial ⟨?_, rfl⟩
                        first
                          | rfl
                          | (refine bool_eq ?_; first | (rw [compare_refl]; rfl) | (exfalso; omega) | (simp; omega))
                      · try simp only [decide_eq_true_eq, decide_eq_false_iff_not, beq_iff_eq, beq_eq_false_iff_ne, bne_iff_ne, bne_eq_false_iff_eq, Int.not_lt, Int.not_le, ne_eq, Bool.not_eq_true', Bool.not_eq_false', gt_iff_lt, ge_iff_le] at h17
                        refine RO.opgv (v' := .d (.int _ _)) rfl (opv_move rfl) rfl ?_
                        refine RO.opgv (v' := .d (.bool _)) rfl (opv_bin rfl rfl rfl) rfl ?_
                        refine RO.opgv (v' := .d (.bool _)) rfl (opv_pick rfl rfl) rfl ?_
                        refine RO.opgc rfl (opv_move rfl) (fun h18 => ?_) (fun h18 => ?_)
                        · try simp only [decide_eq_true_eq, decide_eq_false_iff_not, beq_iff_eq, beq_eq_false_iff_ne, bne_iff_ne, bne_eq_false_iff_eq, Int.not_lt, Int.not_le, ne_eq, Bool.not_eq_true', Bool.not_eq_false', gt_iff_lt, ge_iff_le] at h18
                          refine RO.off rfl ?_
                          refine RO.off rfl ?_
                          refine RO.opgv (v' := .d (.bool true)) rfl (opv_pick rfl rfl) rfl ?_
                          refine RO.opv (v' := .d (.bool true)) (opv_pick rfl rfl) rfl ?_
                          refine RO.opv (v' := .d (.bool true)) (opv_move rfl) rfl ?_
                          refine RO.opgv (v' := .d (enc _)) rfl (opv_load_term rfl rfl rfl) rfl ?_
                          refine RO.opgv (v' := .d (enc _)) rfl (opv_load_term rfl rfl rfl) rfl ?_
                          refine RO.opgv (v' := .d (.int _ _)) rfl (opv_callF (compare_fn a a (by omega) (by omega)) rfl rfl rfl trivial) rfl ?_
                          refine RO.opgv (v' := .d (.bool _)) rfl (opv_bin rfl rfl rfl) rfl ?_
                          refine RO.opv (v' := .d (.bool _)) (opv_pick rfl rfl) rfl ?_
                          refine RO.opv (v' := .d (.bool _)) (opv_assign rfl) rfl ?_
                          refine RO.nil ?_
                          refine Runs.ret ?_
                          refine EndQ.tmp (.inr rfl) rfl rfl 0 (by exact Nat.le_refl _) (by exact Nat.zero_le _) trivial ⟨?_, rfl⟩
                          first
                            | rfl
                            | (refine bool_eq ?_; first | (rw [compare_refl]; rfl) | (exfalso; omega) | (simp; omega))
                        · try simp only [decide_eq_true_eq, decide_eq_false_iff_not, beq_iff_eq, beq_eq_false_iff_ne, bne_iff_ne, bne_eq_false_iff_eq, Int.not_lt, Int.not_le, ne_eq, Bool.not_eq_true', Bool.not_eq_false', gt_iff_lt, ge_iff_le] at h18
                          refine RO.opgv (v' := .d (.int _ _)) rfl (opv_move rfl) rfl ?_
                          refine RO.opgv (v' := .d (.bool _)) rfl (opv_bin rfl rfl rfl) rfl ?_
                          refine RO.opgv (v' := .d (.bool _)) rfl (opv_pick rfl rfl) rfl ?_
                          refine RO.opv (v' := .d (.bool _)) (opv_pick rfl rfl) rfl ?_
                          refine RO.opc (opv_move rfl) (fun h19 => ?_) (fun h19 => ?_)
                          · try simp only [decide_eq_true_eq, decide_eq_false_iff_not, beq_iff_eq, beq_eq_false_iff_ne, bne_iff_ne, bne_eq_false_iff_eq, Int.not_lt, Int.not_le, ne_eq, Bool.not_eq_true', Bool.not_eq_false', gt_iff_lt, ge_iff_le] at h19
                            refine RO.opgv (v' := .d (enc _)) rfl (opv_load_term rfl rfl rfl) rfl ?_
                            refine RO.opgv (v' := .d (enc _)) rfl (opv_load_term rfl rfl rfl) rfl ?_
                            refine RO.opgv (v' := .d (.int _ _)) rfl (opv_callF (compare_fn a a (by omega) (by omega)) rfl rfl rfl trivial) rfl ?_
                            refine RO.opgv (v' := .d (.bool _)) rfl (opv_bin rfl rfl rfl) rfl ?_
                            refine RO.opv (v' := .d (.bool _)) (opv_pick rfl rfl) rfl ?_
                            refine RO.opv (v' := .d (.bool _)) (opv_assign rfl) rfl ?_
                            refine RO.nil ?_
                            refine Runs.ret ?_
                            refine EndQ.tmp (.inr rfl) rfl rfl 0 (by exact Nat.le_refl _) (by exact Nat.zero_le _) trivial ⟨?_, rfl⟩
                            first
                              | rfl
                              | (refine bool_eq ?_; first | (rw [compare_refl]; rfl) | (exfalso; omega) | (simp; omega))
                          · try simp only [decide_eq_true_eq, decide_eq_false_iff_not, beq_iff_eq, beq_eq_false_iff_ne, bne_iff_ne, bne_eq_false_iff_eq, Int.not_lt, Int.not_le, ne_eq, Bool.not_eq_true', Bool.not_eq_false', gt_iff_lt, ge_iff_le] at h19
                            refine RO.off rfl ?_
                            refine RO.off rfl ?_
                            refine RO.off rfl ?_
                            refine RO.off rfl ?_
                            refine RO.opv (v' := .d (.bool false)) (opv_pick rfl rfl) rfl ?_
                            refine RO.opv (v' := .d (.bool false)) (opv_assign rfl) rfl ?_
                            refine RO.nil ?_
                            refine Runs.ret ?_
                            refine EndQ.tmp (.inr rfl) rfl rfl 0 (by exact Nat.le_refl _) (by exact Nat.zero_le _) trivial ⟨?_, rfl⟩
                            first
                              | rfl
                              | (refine bool_eq ?_; first | (rw [compare_refl]; rfl) | (exfalso; omega) | (simp; omega))
                    · try simp only [decide_eq_true_eq, decide_eq_false_iff_not, beq_iff_eq, beq_eq_false_iff_ne, bne_iff_ne, bne_eq_false_iff_eq, Int.not_lt, Int.not_le, ne_eq, Bool.not_eq_true', Bool.not_eq_false', gt_iff_lt, ge_iff_le] at h16
                      refine RO.off rfl ?_
                      refine RO.off rfl ?_
                      refine RO.off rfl ?_
                      refine RO.off rfl ?_
                      refine RO.off rfl ?_
                      refine RO.off rfl ?_
                      refine RO.off rfl ?_
                      refine RO.off rfl ?_
                      refine RO.off rfl ?_
                      refine RO.off rfl ?_
                      refine RO.opv (v' := .d (.bool false)) (opv_pick rfl rfl) rfl ?_
                      refine RO.opv (v' := .d (.bool false)) (opv_move rfl) rfl ?_
                      refine RO.off rfl ?_
                      refine RO.off rfl ?_
                      refine RO.off rfl ?_
                      refine RO.off rfl ?_
                      refine RO.opv (v' := .d (.bool false)) (opv_pick rfl rfl) rfl ?_
                      refine RO.opv (v' := .d (.bool false)) (opv_assign rfl) rfl ?_
                      refine RO.nil ?_
                      refine Runs.ret ?_
                      refine EndQ.tmp (.inr rfl) rfl rfl 0 (by exact Nat.le_refl _) (by exact Nat.zero_le _) trivial ⟨?_, rfl⟩
                      first
                        | rfl
                        | (refine bool_eq ?_; first | (rw [compare_refl]; rfl) | (exfalso; omega) | (simp; omega))
            · try simp only [decide_eq_true_eq, decide_eq_false_iff_not, beq_iff_eq, beq_eq_false_iff_ne, bne_iff_ne, bne_eq_false_iff_eq, Int.not_lt, Int.not_le, ne_eq, Bool.not_eq_true', Bool.not_eq_false', gt_iff_lt, ge_iff_le] at h6
              skip
              refine RD.off rfl ?_
              refine RD.off rfl ?_
              refine RD.off rfl ?_
              refine RD.off rfl ?_
              refine RD.off rfl ?_
              refine RD.off rfl ?_
              refine RD.off rfl ?_
              refine RD.off rfl ?_
              refine RD.opgv (v' := .d (.bool false)) rfl (opv_pick rfl rfl) rfl ?_
              refine RD.opv (v' := .d (.bool false)) (opv_pick rfl rfl) rfl ?_
              refine RD.nil ?_
              refine thenQ_normal ?_
              refine Runs.condF rfl ?_
              refine Runs.skip ?_
              refine thenQ_normal ?_
              refine Runs.has [(3, .ref 0 0), (6, .d (.bool false)), (7, .d (.bool true)), (8, .d (.int _ _)), (9, .d (.int _ _)), (10, .d (.int _ _))] ⟨rfl, rfl, rfl, rfl, rfl, rfl, trivial⟩ ?_
              refine Runs.rseq ?_
              refine RO.opv (v' := .d (.bool true)) (opv_move rfl) rfl ?_
              refine RO.opv (v' := .d (.bool true)) (opv_move rfl) rfl ?_
              refine RO.opgv (v' := .d (.int _ _)) rfl (opv_move rfl) rfl ?_
              refine RO.opgv (v' := .d (.bool _)) rfl (opv_bin rfl rfl rfl) rfl ?_
              refine RO.opgc rfl (opv_move rfl) (fun h20 => ?_) (fun h20 => ?_)
              · try simp only [decide_eq_true_eq, decide_eq_false_iff_not, beq_iff_eq, beq_eq_false_iff_ne, bne_iff_ne, bne_eq_false_iff_eq, Int.not_lt, Int.not_le, ne_eq, Bool.not_eq_true', Bool.not_eq_false', gt_iff_lt, ge_iff_le] at h20
                refine RO.off rfl ?_
                refine RO.off rfl ?_
                refine RO.opgv (v' := .d (.bool true)) rfl (opv_pick rfl rfl) rfl ?_
                refine RO.opgv (v' := .d (.bool true)) rfl (opv_move rfl) rfl ?_
                refine RO.off rfl ?_
                refine RO.off rfl ?_
                refine RO.opgv (v' := .d (.bool true)) rfl (opv_pick rfl rfl) rfl ?_
                refine RO.opv (v' := .d (.bool true)) (opv_pick rfl rfl) rfl ?_
                refine RO.opv (v' := .d (.bool true)) (opv_move rfl) rfl ?_
                refine RO.opgv (v' := .d (.int _ _)) rfl (opv_move rfl) rfl ?_
                refine RO.opgv (v' := .d (.bool _)) rfl (opv_bin rfl rfl rfl) rfl ?_
                refine RO.opgc rfl (opv_move rfl) (fun h21 => ?_) (fun h21 => ?_)
                · try simp only [decide_eq_true_eq, decide_eq_false_iff_not, beq_iff_eq, beq_eq_false_iff_ne, bne_iff_ne, bne_eq_false_iff_eq, Int.not_lt, Int.not_le, ne_eq, Bool.not_eq_true', Bool.not_eq_false', gt_iff_lt, ge_iff_le] at h21
                  refine RO.off rfl ?_
                  refine RO.off rfl ?_
                  refine RO.opgv (v' := .d (.bool true)) rfl (opv_pick rfl rfl) rfl ?_
                  refine RO.opgv (v' := .d (.bool true)) rfl (opv_move rfl) rfl ?_
                  refine RO.off rfl ?_
                  refine RO.off rfl ?_
                  refine RO.opgv (v' := .d (.bool true)) rfl (opv_pick rfl rfl) rfl ?_
                  refine RO.opv (v' := .d (.bool true)) (opv_pick rfl rfl) rfl ?_
                  refine RO.opv (v' := .d (.bool true)) (opv_move rfl) rfl ?_
                  refine RO.opgv (v' := .d (enc _)) rfl (opv_load_term rfl rfl rfl) rfl ?_
                  refine RO.opgv (v' := .d (enc _)) rfl (opv_load_term rfl rfl rfl) rfl ?_
                  refine RO.opgv (v' := .d (.int _ _)) rfl (opv_callF (compare_fn a a (by omega) (by omega)) rfl rfl rfl trivial) rfl ?_
                  refine RO.opgv (v' := .d (.bool _)) rfl (opv_bin rfl rfl rfl) rfl ?_
                  refine RO.opv (v' := .d (.bool _)) (opv_pick rfl rfl) rfl ?_
                  refine RO.opv (v' := .d (.bool _)) (opv_assign rfl) rfl ?_
                  refine RO.nil ?_
                  refine Runs.ret ?_
                  refine EndQ.tmp (.inr rfl) rfl rfl 0 (by exact Nat.le_refl _) (by exact Nat.zero_le _) trivial ⟨?_, rfl⟩
                  first
                    | rfl
                    | (refine bool_eq ?_; first | (rw [compare_refl]; rfl) | (exfalso; omega) | (simp; omega))
                · try simp only [decide_eq_true_eq, decide_eq_false_iff_not, beq_iff_eq, beq_eq_false_iff_ne, bne_iff_ne, bne_eq_false_iff_eq, Int.not_lt, Int.not_le, ne_eq, Bool.not_eq_true', Bool.not_eq_false', gt_iff_lt, ge_iff_le] at h21
                  refine RO.opgv (v' := .d (.int _ _)) rfl (opv_move rfl) rfl ?_
                  refine RO.opgv (v' := .d (.bool _)) rfl (opv_bin rfl rfl rfl) rfl ?_
                  refine RO.opgv (v' := .d (.bool _)) rfl (opv_pick rfl rfl) rfl ?_
                  refine RO.opgc rfl (opv_move rfl) (fun h22 => ?_) (fun h22 => ?_)
                  · try simp only [decide_eq_true_eq, decide_eq_false_iff_not, beq_iff_eq, beq_eq_false_iff_ne, bne_iff_ne, bne_eq_false_iff_eq, Int.not_lt, Int.not_le, ne_eq, Bool.not_eq_true', Bool.not_eq_false', gt_iff_lt, ge_iff_le] at h22
                    refine RO.off rfl ?_
                    refine RO.off rfl ?_
                    refine RO.opgv (v' := .d (.bool true)) rfl (opv_pick rfl rfl) rfl ?_
                    refine RO.opv (v' := .d (.bool true)) (opv_pick rfl rfl) rfl ?_
                    refine RO.opv (v' := .d (.bool true)) (opv_move rfl) rfl ?_
                    refine RO.opgv (v' := .d (enc _)) rfl (opv_load_term rfl rfl rfl) rfl ?_
                    refine RO.opgv (v' := .d (enc _)) rfl (opv_load_term rfl rfl rfl) rfl ?_
                    refine RO.opgv (v' := .d (.int _ _)) rfl (opv_callF (compare_fn a a (by omega) (by omega)) rfl rfl rfl trivial) rfl ?_
                    refine RO.opgv (v' := .d (.bool _)) rfl (opv_bin rfl rfl rfl) rfl ?_
                    refine RO.opv (v' := .d (.bool _)) (opv_pick rfl rfl) rfl ?_
                    refine RO.opv (v' := .d (.bool _)) (opv_assign rfl) rfl ?_
                    refine RO.nil ?_
                    refine Runs.ret ?_
                    refine EndQ.tmp (.inr rfl) rfl rfl 0 (by exact Nat.le_refl _) (by exact Nat.zero_le _) trivial ⟨?_, rfl⟩
                    first
                      | rfl
                      | (refine bool_eq ?_; first | (rw [compare_refl]; rfl) | (exfalso; omega) | (simp; omega))
                  · try simp only [decide_eq_true_eq, decide_eq_false_iff_not, beq_iff_eq, beq_eq_false_iff_ne, bne_iff_ne, bne_eq_false_iff_eq, Int.not_lt, Int.not_le, ne_eq, Bool.not_eq_true', Bool.not_eq_false', gt_iff_lt, ge_iff_le] at h22
                    refine RO.opgv (v' := .d (.int _ _)) rfl (opv_move rfl) rfl ?_
                    refine RO.opgv (v' := .d (.bool _)) rfl (opv_bin rfl rfl rfl) rfl ?_
                    refine RO.opgv (v' := .d (.bool _)) rfl (opv_pick rfl rfl) rfl ?_
                    refine RO.opv (v' := .d (.bool _)) (opv_pick rfl rfl) rfl ?_
                    refine RO.opc (opv_move rfl) (fun h23 => ?_) (fun h23 => ?_)
                    · try simp only [decide_eq_true_eq, decide_eq_false_iff_not, beq_iff_eq, beq_eq_false_iff_ne, bne_iff_ne, bne_eq_false_iff_eq, Int.not_lt, Int.not_le, ne_eq, Bool.not_eq_true', Bool.not_eq_false', gt_iff_lt, ge_iff_le] at h23
                      refine RO.opgv (v' := .d (enc _)) rfl (opv_load_term rfl rfl rfl) rfl ?_
                      refine RO.opgv (v' := .d (enc _)) rfl (opv_load_term rfl rfl rfl) rfl ?_
                      refine RO.opgv (v' := .d (.int _ _)) rfl (opv_callF (compare_fn a a (by omega) (by omega)) rfl rfl rfl trivial) rfl ?_
                      refine RO.opgv (v' := .d (.bool _)) rfl (opv_bin rfl rfl rfl) rfl ?_
                      refine RO.opv (v' := .d (.bool _)) (opv_pick rfl rfl) rfl ?_
                      refine RO.opv (v' := .d (.bool _)) (opv_assign rfl) rfl ?_
                      refine RO.nil ?_
                      refine Runs.ret ?_
                      refine EndQ.tmp (.inr rfl) rfl rfl 0 (by exact Nat.le_refl _) (by exact Nat.zero_le _) trivial ⟨?_, rfl⟩
                      first
                        | rfl
                        | (refine bool_eq ?_; first | (rw [compare_refl]; rfl) | (exfalso; omega) | (simp; omega))
                    · try simp only [decide_eq_true_eq, decide_eq_false_iff_not, beq_iff_eq, beq_eq_false_iff_ne, bne_iff_ne, bne_eq_false_iff_eq, Int.not_lt, Int.not_le, ne_eq, Bool.not_eq_true', Bool.not_eq_false', gt_iff_lt, ge_iff_le] at h23
                      refine RO.off rfl ?_
                      refine RO.off rfl ?_
                      refine RO.off rfl ?_
                      refine RO.off rfl ?_
                      refine RO.opv (v' := .d (.bool false)) (opv_pick rfl rfl) rfl ?_
                      refine RO.opv (v' := .d (.bool false)) (opv_assign rfl) rfl ?_
                      refine RO.nil ?_
                      refine Runs.ret ?_
                      refine EndQ.tmp (.inr rfl) rfl rfl 0 (by exact Nat.le_refl _) (by exact Nat.zero_le _) trivial ⟨?_, rfl⟩
                      first
                        | rfl
                        | (refine bool_eq ?_; first | (rw [compare_refl]; rfl) | (exfalso; omega) | (simp; omega))
              · try simp only [decide_eq_true_eq, decide_eq_false_iff_not, beq_iff_eq, beq_eq_false_iff_ne, bne_iff_ne, bne_eq_false_iff_eq, Int.not_lt, Int.not_le, ne_eq, Bool.not_eq_true', Bool.not_eq_false', gt_iff_lt, ge_iff_le] at h20
                refine RO.opgv (v' := .d (.int _ _)) rfl (opv_move rfl) rfl ?_
                refine RO.opgv (v' := .d (.bool _)) rfl (opv_bin rfl rfl rfl) rfl ?_
                refine RO.opgv (v' := .d (.bool _)) rfl (opv_pick rfl rfl) rfl ?_
                refine RO.opgc rfl (opv_move rfl) (fun h24 => ?_) (fun h24 => ?_)
                · try simp only [decide_eq_true_eq, decide_eq_false_iff_not, beq_iff_eq, beq_eq_false_iff_ne, bne_iff_ne, bne_eq_false_iff_eq, Int.not_lt, Int.not_le, ne_eq, Bool.not_eq_true', Bool.not_eq_false', gt_iff_lt, ge_iff_le] at h24
                  refine RO.off rfl ?_
                  refine RO.off rfl ?_
                  refine RO.opgv (v' := .d (.bool true)) rfl (opv_pick rfl rfl) rfl ?_
                  refine RO.opv (v' := .d (.bool true)) (opv_pick rfl rfl) rfl ?_
                  refine RO.opv (v' := .d (.bool true)) (opv_move rfl) rfl ?_
                  refine RO.opgv (v' := .d (.int _ _)) rfl (opv_move rfl) rfl ?_
                  refine RO.opgv (v' := .d (.bool _)) rfl (opv_bin rfl rfl rfl) rfl ?_
                  refine RO.opgc rfl (opv_move rfl) (fun h25 => ?_) (fun h25 => ?_)
                  · try simp only [decide_eq_true_eq, decide_eq_false_iff_not, beq_iff_eq, beq_eq_false_iff_ne, bne_iff_ne, bne_eq_false_iff_eq, Int.not_lt, Int.not_le, ne_eq, Bool.not_eq_true', Bool.not_eq_false', gt_iff_lt, ge_iff_le] at h25
                    refine RO.off rfl ?_
                    refine RO.off rfl ?_
                    refine RO.opgv (v' := .d (.bool true)) rfl (opv_pick rfl rfl) rfl ?_
                    refine RO.opgv (v' := .d (.bool true)) rfl (opv_move rfl) rfl ?_
                    refine RO.off rfl ?_
                    refine RO.off rfl ?_
                    refine RO.opgv (v' := .d (.bool true)) rfl (opv_pick rfl rfl) rfl ?_
                    refine RO.opv (v' := .d (.bool true)) (opv_pick rfl rfl) rfl ?_
                    refine RO.opv (v' := .d (.bool true)) (opv_move rfl) rfl ?_
                    refine RO.opgv (v' := .d (enc _)) rfl (opv_load_term rfl rfl rfl) rfl ?_
                    refine RO.opgv (v' := .d (enc _)) rfl (opv_load_term rfl rfl rfl) rfl ?_
                    refine RO.opgv (v' := .d (.int _ _)) rfl (opv_callF (compare_fn a a (by omega) (by omega)) rfl rfl rfl trivial) rfl ?_
                    refine RO.opgv (v' := .d (.bool _)) rfl (opv_bin rfl rfl rfl) rfl ?_
                    refine RO.opv (v' := .d (.bool _)) (opv_pick rfl rfl) rfl ?_
                    refine RO.opv (v' := .d (.bool _)) (opv_assign rfl) rfl ?_
                    refine RO.nil ?_
                    refine Runs.ret ?_
                    refine EndQ.tmp (.inr rfl) rfl rfl 0 (by exact Nat.le_refl _) (by exact Nat.zero_le _) trivial ⟨?_, rfl⟩
                    first
                      | rfl
                      | (refine bool_eq ?_; first | (rw [compare_refl]; rfl) | (exfalso; omega) | (simp; omega))
                  · try simp only [decide_eq_true_eq, decide_eq_false_iff_not, beq_iff_eq, beq_eq_false_iff_ne, bne_iff_ne, bne_eq_false_iff_eq, Int.not_lt, Int.not_le, ne_eq, Bool.not_eq_true', Bool.not_eq_false', gt_iff_lt, ge_iff_le] at h25
                    refine RO.opgv (v' := .d (.int _ _)) rfl (opv_move rfl) rfl ?_
                    refine RO.opgv (v' := .d (.bool _)) rfl (opv_bin rfl rfl rfl) rfl ?_
                    refine RO.opgv (v' := .d (.bool _)) rfl (opv_pick rfl rfl) rfl ?_
                    refine RO.opgc rfl (opv_move rfl) (fun h26 => ?_) (fun h26 => ?_)
                    · try simp only [decide_eq_true_eq, decide_eq_false_iff_not, beq_iff_eq, beq_eq_false_iff_ne, bne_iff_ne, bne_eq_false_iff_eq, Int.not_lt, Int.not_le, ne_eq, Bool.not_eq_true', Bool.not_eq_false', gt_iff_lt, ge_iff_le] at h26
                      refine RO.off rfl ?_
                      refine RO.off rfl ?_
                      refine RO.opgv (v' := .d (.bool true)) rfl (opv_pick rfl rfl) rfl ?_
                      refine RO.opv (v' := .d (.bool true)) (opv_pick rfl rfl) rfl ?_
                      refine RO.opv (v' := .d (.bool true)) (opv_move rfl) rfl ?_
                      refine RO.opgv (v' := .d (enc _)) rfl (opv_load_term rfl rfl rfl) rfl ?_
                      refine RO.opgv (v' := .d (enc _)) rfl (opv_load_term rfl rfl rfl) rfl ?_
                      refine RO.opgv (v' := .d (.int _ _)) rfl (opv_callF (compare_fn a a (by omega) (by omega)) rfl rfl rfl trivial) rfl ?_
                      refine RO.opgv (v' := .d (.bool _)) rfl (opv_bin rfl rfl rfl) rfl ?_
                      refine RO.opv (v' := .d (.bool _)) (opv_pick rfl rfl) rfl ?_
                      refine RO.opv (v' := .d (.bool _)) (opv_assign rfl) rfl ?_
                      refine RO.nil ?_
                      refine Runs.ret ?_
                      refine EndQ.tmp (.inr rfl) rfl rfl 0 (by exact Nat.le_refl _) (by exact Nat.zero_le _) trivial ⟨?_, rfl⟩
                      first
                        | rfl
                        | (refine bool_eq ?_; first | (rw [compare_refl]; rfl) | (exfalso; omega) | (simp; omega))
                    · try simp only [decide_eq_true_eq, decide_eq_false_iff_not, beq_iff_eq, beq_eq_false_iff_ne, bne_iff_ne, bne_eq_false_iff_eq, Int.not_lt, Int.not_le, ne_eq, Bool.not_eq_true', Bool.not_eq_false', gt_iff_lt, ge_iff_le] at h26
                      refine RO.opgv (v' := .d (.int _ _)) rfl (opv_move rfl) rfl ?_
                      refine RO.opgv (v' := .d (.bool _)) rfl (opv_bin rfl rfl rfl) rfl ?_
                      refine RO.opgv (v' := .d (.bool _)) rfl (opv_pick rfl rfl) rfl ?_
                      refine RO.opv (v' := .d (.bool _)) (opv_pick rfl rfl) rfl ?_
                      refine RO.opc (opv_move rfl) (fun h27 => ?_) (fun h27 => ?_)
                      · try simp only [decide_eq_true_eq, decide_eq_false_iff_not, beq_iff_eq, beq_eq_false_iff_ne, bne_iff_ne, bne_eq_false_iff_eq, Int.not_lt, Int.not_le, ne_eq, Bool.not_eq_true', Bool.not_eq_false', gt_iff_lt, ge_iff_le] at h27
                        refine RO.opgv (v' := .d (enc _)) rfl (opv_load_term rfl rfl rfl) rfl ?_
                        refine RO.opgv (v' := .d (enc _)) rfl (opv_load_term rfl rfl rfl) rfl ?_
                        refine RO.opgv (v' := .d (.int _ _)) rfl (opv_callF (compare_fn a a (by omega) (by omega)) rfl rfl rfl trivial) rfl ?_
                        refine RO.opgv (v' := .d (.bool _)) rfl (opv_bin rfl rfl rfl) rfl ?_
                        refine RO.opv (v' := .d (.bool _)) (opv_pick rfl rfl) rfl ?_
                        refine RO.opv (v' := .d (.bool _)) (opv_assign rfl) rfl ?_
                        refine RO.nil ?_
                        refine Runs.ret ?_
                        refine EndQ.tmp (.inr rfl) rfl rfl 0 (by exact Nat.le_refl _) (by exact Nat.zero_le _) trivial ⟨?_, rfl⟩
                        first
                          | rfl
                          | (refine bool_eq ?_; first | (rw [compare_refl]; rfl) | (exfalso; omega) | (simp; omega))
                      · try simp only [decide_eq_true_eq, decide_eq_false_iff_not, beq_iff_eq, beq_eq_false_iff_ne, bne_iff_ne, bne_eq_false_iff_eq, Int.not_lt, Int.not_le, ne_eq, Bool.not_eq_true', Bool.not_eq_false', gt_iff_lt, ge_iff_le] at h27
                        refine RO.off rfl ?_
                        refine RO.off rfl ?_
                        refine RO.off rfl ?_
                        refine RO.off rfl ?_
                        refine RO.opv (v' := .d (.bool false)) (opv_pick rfl rfl) rfl ?_
                        refine RO.opv (v' := .d (.bool false)) (opv_assign rfl) rfl ?_
                        refine RO.nil ?_
                        refine Runs.ret ?_
                        refine EndQ.tmp (.inr rfl) rfl rfl 0 (by exact Nat.le_refl _) (by exact Nat.zero_le _) trivial ⟨?_, rfl⟩
                        first
                          | rfl
                          | (refine bool_eq ?_; first | (rw [compare_refl]; rfl) | (exfalso; omega) | (simp; omega))
                · try simp only [decide_eq_true_eq, decide_eq_false_iff_not, beq_iff_eq, beq_eq_false_iff_ne, bne_iff_ne, bne_eq_false_iff_eq, Int.not_lt, Int.not_le, ne_eq, Bool.not_eq_true', Bool.not_eq_false', gt_iff_lt, ge_iff_le] at h24
                  refine RO.opgv (v' := .d (.int _ _)) rfl (opv_move rfl) rfl ?_
                  refine RO.opgv (v' := .d (.bool _)) rfl (opv_bin rfl rfl rfl) rfl ?_
                  refine RO.opgv (v' := .d (.bool _)) rfl (opv_pick rfl rfl) rfl ?_
                  refine RO.opv (v' := .d (.bool _)) (opv_pick rfl rfl) rfl ?_
                  refine RO.opc (opv_move rfl) (fun h28 => ?_) (fun h28 => ?_)
                  · try simp only [decide_eq_true_eq, decide_eq_false_iff_not, beq_iff_eq, beq_eq_false_iff_ne, bne_iff_ne, bne_eq_false_iff_eq, Int.not_lt, Int.not_le, ne_eq, Bool.not_eq_true', Bool.not_eq_false', gt_iff_lt, ge_iff_le] at h28
                    refine RO.opgv (v' := .d (.int _ _)) rfl (opv_move rfl) rfl ?_
                    refine RO.opgv (v' := .d (.bool _)) rfl (opv_bin rfl rfl rfl) rfl ?_
                    refine RO.opgc rfl (opv_move rfl) (fun h29 => ?_) (fun h29 => ?_)
                    · try simp only [decide_eq_true_eq, decide_eq_false_iff_not, beq_iff_eq, beq_eq_false_iff_ne, bne_iff_ne, bne_eq_false_iff_eq, Int.not_lt, Int.not_le, ne_eq, Bool.not_eq_true', Bool.not_eq_false', gt_iff_lt, ge_iff_le] at h29
                      refine RO.off rfl ?_
                      refine RO.off rfl ?_
                      refine RO.opgv (v' := .d (.bool true)) rfl (opv_pick rfl rfl) rfl ?_
                      refine RO.opgv (v' := .d (.bool true)) rfl (opv_move rfl) rfl ?_
                      refine RO.off rfl ?_
                      refine RO.off rfl ?_
                      refine RO.opgv (v' := .d (.bool true)) rfl (opv_pick rfl rfl) rfl ?_
                      refine RO.opv (v' := .d (.bool true)) (opv_pick rfl rfl) rfl ?_
                      refine RO.opv (v' := .d (.bool true)) (opv_move rfl) rfl ?_
                      refine RO.opgv (v' := .d (enc _)) rfl (opv_load_term rfl rfl rfl) rfl ?_
                      refine RO.opgv (v' := .d (enc _)) rfl (opv_load_term rfl rfl rfl) rfl ?_
                      refine RO.opgv (v' := .d (.int _ _)) rfl (opv_callF (compare_fn a a (by omega) (by omega)) rfl rfl rfl trivial) rfl ?_
                      refine RO.opgv (v' := .d (.bool _)) rfl (opv_bin rfl rfl rfl) rfl ?_
                      refine RO.opv (v' := .d (.bool _)) (opv_pick rfl rfl) rfl ?_
                      refine RO.opv (v' := .d (.bool _)) (opv_assign rfl) rfl ?_
                      refine RO.nil ?_
                      refine Runs.ret ?_
                      refine EndQ.tmp (.inr rfl) rfl rfl 0 (by exact Nat.le_refl _) (by exact Nat.zero_le _) trivial ⟨?_, rfl⟩
                      first
                        | rfl
                        | (refine bool_eq ?_; first | (rw [compare_refl]; rfl) | (exfalso; omega) | (simp; omega))
                    · try simp only [decide_eq_true_eq, decide_eq_false_iff_not, beq_iff_eq, beq_eq_false_iff_ne, bne_iff_ne, bne_eq_false_iff_eq, Int.not_lt, Int.not_le, ne_eq, Bool.not_eq_true', Bool.not_eq_false', gt_iff_lt, ge_iff_le] at h29
                      refine RO.opgv (v' := .d (.int _ _)) rfl (opv_move rfl) rfl ?_
                      refine RO.opgv (v' := .d (.bool _)) rfl (opv_bin rfl rfl rfl) rfl ?_
                      refine RO.opgv (v' := .d (.bool _)) rfl (opv_pick rfl rfl) rfl ?_
                      refine RO.opgc rfl (opv_move rfl) (fun h30 => ?_) (fun h30 => ?_)
                      · try simp only [decide_eq_true_eq, decide_eq_false_iff_not, beq_iff_eq, beq_eq_false_iff_ne, bne_iff_ne, bne_eq_false_iff_eq, Int.not_lt, Int.not_le, ne_eq, Bool.not_eq_true', Bool.not_eq_false', gt_iff_lt, ge_iff_le] at h30
                        refine RO.off rfl ?_
                        refine RO.off rfl ?_
                        refine RO.opgv (v' := .d (.bool true)) rfl (opv_pick rfl rfl) rfl ?_
                        refine RO.opv (v' := .d (.bool true)) (opv_pick rfl rfl) rfl ?_
                        refine RO.opv (v' := .d (.bool true)) (opv_move rfl) rfl ?_
                        refine RO.opgv (v' := .d (enc _)) rfl (opv_load_term rfl rfl rfl) rfl ?_
                        refine RO.opgv (v' := .d (enc _)) rfl (opv_load_term rfl rfl rfl) rfl ?_
                        refine RO.opgv (v' := .d (.int _ _)) rfl (opv_callF (compare_fn a a (by omega) (by omega)) rfl rfl rfl trivial) rfl ?_
                        refine RO.opgv (v' := .d (.bool _)) rfl (opv_bin rfl rfl rfl) rfl ?_
                        refine RO.opv (v' := .d (.bool _)) (opv_pick rfl rfl) rfl ?_
                        refine RO.opv (v' := .d (.bool _)) (opv_assign rfl) rfl ?_
                        refine RO.nil ?_
                        refine Runs.ret ?_
                        refine EndQ.tmp (.inr rfl) rfl rfl 0 (by exact Nat.le_refl _) (by exact Nat.zero_le _) trivial ⟨?_, rfl⟩
                        first
                          | rfl
                          | (refine bool_eq ?_; first | (rw [compare_refl]; rfl) | (exfalso; omega) | (simp; omega))
                      · try simp only [decide_eq_true_eq, decide_eq_false_iff_not, beq_iff_eq, beq_eq_false_iff_ne, bne_iff_ne, bne_eq_false_iff_eq, Int.not_lt, Int.not_le, ne_eq, Bool.not_eq_true', Bool.not_eq_false', gt_iff_lt, ge_iff_le] at h30
                        refine RO.opgv (v' := .d (.int _ _)) rfl (opv_move rfl) rfl ?_
                        refine RO.opgv (v' := .d (.bool _)) rfl (opv_bin rfl rfl rfl) rfl ?_
                        refine RO.opgv (v' := .d (.bool _)) rfl (opv_pick rfl rfl) rfl ?_
                        refine RO.opv (v' := .d (.bool _)) (opv_pick rfl rfl) rfl ?_
                        refine RO.opc (opv_move rfl) (fun h31 => ?_) (fun h31 => ?_)
                        · try simp only [decide_eq_true_eq, decide_eq_false_iff_not, beq_iff_eq, beq_eq_false_iff_ne, bne_iff_ne, bne_eq_false_iff_eq, Int.not_lt, Int.not_le, ne_eq, Bool.not_eq_true', Bool.not_eq_false', gt_iff_lt, ge_iff_le] at h31
                          refine RO.opgv (v' := .d (enc _)) rfl (opv_load_term rfl rfl rfl) rfl ?_
                          refine RO.opgv (v' := .d (enc _)) rfl (opv_load_term rfl rfl rfl) rfl ?_
                          refine RO.opgv (v' := .d (.int _ _)) rfl (opv_callF (compare_fn a a (by omega) (by omega)) rfl rfl rfl trivial) rfl ?_
                          refine RO.opgv (v' := .d (.bool _)) rfl (opv_bin rfl rfl rfl) rfl ?_
                          refine RO.opv (v' := .d (.bool _)) (opv_pick rfl rfl) rfl ?_
                          refine RO.opv (v' := .d (.bool _)) (opv_assign rfl) rfl ?_
                          refine RO.nil ?_
                          refine Runs.ret ?_
                          refine EndQ.tmp (.inr rfl) rfl rfl 0 (by exact Nat.le_refl _) (by exact Nat.zero_le _) trivial ⟨?_, rfl⟩
                          first
                            | rfl
                            | (refine bool_eq ?_; first | (rw [compare_refl]; rfl) | (exfalso; omega) | (simp; omega))
                        · try simp only [decide_eq_true_eq, decide_eq_false_iff_not, beq_iff_eq, beq_eq_false_iff_ne, bne_iff_ne, bne_eq_false_iff_eq, Int.not_lt, Int.not_le, ne_eq, Bool.not_eq_true', Bool.not_eq_false', gt_iff_lt, ge_iff_le] at h31
                          refine RO.off rfl ?_
                          refine RO.off rfl ?_
                          refine RO.off rfl ?_
                          refine RO.off rfl ?_
                          refine RO.opv (v' := .d (.bool false)) (opv_pick rfl rfl) rfl ?_
                          refine RO.opv (v' := .d (.bool false)) (opv_assign rfl) rfl ?_
                          refine RO.nil ?_
                          refine Runs.ret ?_
                          refine EndQ.tmp (.inr rfl) rfl rfl 0 (by exact Nat.le_refl _) (by exact Nat.zero_le _) trivial ⟨?_, rfl⟩
                          first
                            | rfl
                            | (refine bool_eq ?_; first | (rw [compare_refl]; rfl) | (exfalso; omega) | (simp; omega))
                  · try simp only [decide_eq_true_eq, decide_eq_false_iff_not, beq_iff_eq, beq_eq_false_iff_ne, bne_iff_ne, bne_eq_false_iff_eq, Int.not_lt, Int.not_le, ne_eq, Bool.not_eq_true', Bool.not_eq_false', gt_iff_lt, ge_iff_le] at h28
                    refine RO.off rfl ?_
                    refine RO.off rfl ?_
                    refine RO.off rfl ?_
                    refine RO.off rfl ?_
                    refine RO.off rfl ?_
                    refine RO.off rfl ?_
                    refine RO.off rfl ?_
                    refine RO.off rfl ?_
                    refine RO.off rfl ?_
                    refine RO.off rfl ?_
                    refine RO.opv (v' := .d (.bool false)) (opv_pick rfl rfl) rfl ?_
                    refine RO.opv (v' := .d (.bool false)) (opv_move rfl) rfl ?_
                    refine RO.off rfl ?_
                    refine RO.off rfl ?_
                    refine RO.off rfl ?_
                    refine RO.off rfl ?_
                    refine RO.opv (v' := .d (.bool false)) (opv_pick rfl rfl) rfl ?_
                    refine RO.opv (v' := .d (.bool false)) (opv_assign rfl) rfl ?_
                    refine RO.nil ?_
                    refine Runs.ret ?_
                    refine EndQ.tmp (.inr rfl) rfl rfl 0 (by exact Nat.le_refl _) (by exact Nat.zero_le _) trivial ⟨?_, rfl⟩
                    first
                      | rfl
                      | (refine bool_eq ?_; first | (rw [compare_refl]; rfl) | (exfalso; omega) | (simp; omega))
          · try simp only [decide_eq_true_eq, decide_eq_false_iff_not, beq_iff_eq, beq_eq_false_iff_ne, bne_iff_ne, bne_eq_false_iff_eq, Int.not_lt, Int.not_le, ne_eq, Bool.not_eq_true', Bool.not_eq_false', gt_iff_lt, ge_iff_le] at h5
            skip
            refine RD.off rfl ?_
            refine RD.off rfl ?_
            refine RD.off rfl ?_
            refine RD.opgv (v' := .d (.bool false)) rfl (opv_pick rfl rfl) rfl ?_
            refine RD.opgv (v' := .d (.bool false)) rfl (opv_move rfl) rfl ?_
            refine RD.off rfl ?_
            refine RD.off rfl ?_
            refine RD.off rfl ?_
            refine RD.off rfl ?_
            refine RD.off rfl ?_
            refine RD.off rfl ?_
            refine RD.off rfl ?_
            refine RD.off rfl ?_
            refine RD.opgv (v' := .d (.bool false)) rfl (opv_pick rfl rfl) rfl ?_
            refine RD.opv (v' := .d (.bool false)) (opv_pick rfl rfl) rfl ?_
            refine RD.nil ?_
            refine thenQ_normal ?_
            refine Runs.condF rfl ?_
            refine Runs.skip ?_
            refine thenQ_normal ?_
            refine Runs.has [(3, .ref 0 0), (6, .d (.bool false)), (7, .d (.bool true)), (8, .d (.int _ _)), (9, .d (.int _ _)), (10, .d (.int _ _))] ⟨rfl, rfl, rfl, rfl, rfl, rfl, trivial⟩ ?_
            refine Runs.rseq ?_
            refine RO.opv (v' := .d (.bool true)) (opv_move rfl) rfl ?_
            refine RO.opv (v' := .d (.bool true)) (opv_move rfl) rfl ?_
            refine RO.opgv (v' := .d (.int _ _)) rfl (opv_move rfl) rfl ?_
            refine RO.opgv (v' := .d (.bool _)) rfl (opv_bin rfl rfl rfl) rfl ?_
            refine RO.opgc rfl (opv_move rfl) (fun h32 => ?_) (fun h32 => ?_)
            · try simp only [decide_eq_true_eq, decide_eq_false_iff_not, beq_iff_eq, beq_eq_false_iff_ne, bne_iff_ne, bne_eq_false_iff_eq, Int.not_lt, Int.not_le, ne_eq, Bool.not_eq_true', Bool.not_eq_false', gt_iff_lt, ge_iff_le] at h32
              refine RO.off rfl ?_
              refine RO.off rfl ?_
              refine RO.opgv (v' := .d (.bool true)) rfl (opv_pick rfl rfl) rfl ?_
              refine RO.opgv (v' := .d (.bool true)) rfl (opv_move rfl) rfl ?_
              refine RO.off rfl ?_
              refine RO.off rfl ?_
              refine RO.opgv (v' := .d (.bool true)) rfl (opv_pick rfl rfl) rfl ?_
              refine RO.opv (v' := .d (.bool true)) (opv_pick rfl rfl) rfl ?_
              refine RO.opv (v' := .d (.bool true)) (opv_move rfl) rfl ?_
              refine RO.opgv (v' := .d (.int _ _)) rfl (opv_move rfl) rfl ?_
              refine RO.opgv (v' := .d (.bool _)) rfl (opv_bin rfl rfl rfl) rfl ?_
              refine RO.opgc rfl (opv_move rfl) (fun h33 => ?_) (fun h33 => ?_)
              · try simp only [decide_eq_true_eq, decide_eq_false_iff_not, beq_iff_eq, beq_eq_false_iff_ne, bne_iff_ne, bne_eq_false_iff_eq, Int.not_lt, Int.not_le, ne_eq, Bool.not_eq_true', Bool.not_eq_false', gt_iff_lt, ge_iff_le] at h33
                refine RO.off rfl ?_
                refine RO.off rfl ?_
                refine RO.opgv (v' := .d (.bool true)) rfl (opv_pick rfl rfl) rfl ?_
                refine RO.opgv (v' := .d (.bool true)) rfl (opv_move rfl) rfl ?_
                refine RO.off rfl ?_
                refine RO.off rfl ?_
                refine RO.opgv (v' := .d (.bool true)) rfl (opv_pick rfl rfl) rfl ?_
                refine RO.opv (v' := .d (.bool true)) (opv_pick rfl rfl) rfl ?_
                refine RO.opv (v' := .d (.bool true)) (opv_move rfl) rfl ?_
                refine RO.opgv (v' := .d (enc _)) rfl (opv_load_term rfl rfl rfl) rfl ?_
                refine RO.opgv (v' := .d (enc _)) rfl (opv_load_term rfl rfl rfl) rfl ?_
                refine RO.opgv (v' := .d (.int _ _)) rfl (opv_callF (compare_fn a a (by omega) (by omega)) rfl rfl rfl trivial) rfl ?_
                refine RO.opgv (v' := .d (.bool _)) rfl (opv_bin rfl rfl rfl) rfl ?_
                refine RO.opv (v' := .d (.bool _)) (opv_pick rfl rfl) rfl ?_
                refine RO.opv (v' := .d (.bool _)) (opv_assign rfl) rfl ?_
                refine RO.nil ?_
                refine Runs.ret ?_
                refine EndQ.tmp (.inr rfl) rfl rfl 0 (by exact Nat.le_refl _) (by exact Nat.zero_le _) trivial ⟨?_, rfl⟩
                first
                  | rfl
                  | (refine bool_eq ?_; first | (rw [compare_refl]; rfl) | (exfalso; omega) | (simp; omega))
              · try simp only [decide_eq_true_eq, decide_eq_false_iff_not, beq_iff_eq, beq_eq_false_iff_ne, bne_iff_ne, bne_eq_false_iff_eq, Int.not_lt, Int.not_le, ne_eq, Bool.not_eq_true', Bool.not_eq_false', gt_iff_lt, ge_iff_le] at h33
                refine RO.opgv (v' := .d (.int _ _)) rfl (opv_move rfl) rfl ?_
                refine RO.opgv (v' := .d (.bool _)) rfl (opv_bin rfl rfl rfl) rfl ?_
                refine RO.opgv (v' := .d (.bool _)) rfl (opv_pick rfl rfl) rfl ?_
                refine RO.opgc rfl (opv_move rfl) (fun h34 => ?_) (fun h34 => ?_)
                · try simp only [decide_eq_true_eq, decide_eq_false_iff_not, beq_iff_eq, beq_eq_false_iff_ne, bne_iff_ne, bne_eq_false_iff_eq, Int.not_lt, Int.not_le, ne_eq, Bool.not_eq_true', Bool.not_eq_false', gt_iff_lt, ge_iff_le] at h34
                  refine RO.off rfl ?_
                  refine RO.off rfl ?_
                  refine RO.opgv (v' := .d (.bool true)) rfl (opv_pick rfl rfl) rfl ?_
                  refine RO.opv (v' := .d (.bool true)) (opv_pick rfl rfl) rfl ?_
                  refine RO.opv (v' := .d (.bool true)) (opv_move rfl) rfl ?_
                  refine RO.opgv (v' := .d (enc _)) rfl (opv_load_term rfl rfl rfl) rfl ?_
                  refine RO.opgv (v' := .d (enc _)) rfl (opv_load_term rfl rfl rfl) rfl ?_
                  refine RO.opgv (v' := .d (.int _ _)) rfl (opv_callF (compare_fn a a (by omega) (by omega)) rfl rfl rfl trivial) rfl ?_
                  refine RO.opgv (v' := .d (.bool _)) rfl (opv_bin rfl rfl rfl) rfl ?_
                  refine RO.opv (v' := .d (.bool _)) (opv_pick rfl rfl) rfl ?_
                  refine RO.opv (v' := .d (.bool _)) (opv_assign rfl) rfl ?_
                  refine RO.nil ?_
                  refine Runs.ret ?_
                  refine EndQ.tmp (.inr rfl) rfl rfl 0 (by exact Nat.le_refl _) (by exact Nat.zero_le _) trivial ⟨?_, rfl⟩
                  first
                    | rfl
                    | (refine bool_eq ?_; first | (rw [compare_refl]; rfl) | (exfalso; omega) | (simp; omega))
                · try simp only [decide_eq_true_eq, decide_eq_false_iff_not, beq_iff_eq, beq_eq_false_iff_ne, bne_iff_ne, bne_eq_false_iff_eq, Int.not_lt, Int.not_le, ne_eq, Bool.not_eq_true', Bool.not_eq_false', gt_iff_lt, ge_iff_le] at h34
                  refine RO.opgv (v' := .d (.int _ _)) rfl (opv_move rfl) rfl ?_
                  refine RO.opgv (v' := .d (.bool _)) rfl (opv_bin rfl rfl rfl) rfl ?_
                  refine RO.opgv (v' := .d (.bool _)) rfl (opv_pick rfl rfl) rfl ?_
                  refine RO.opv (v' := .d (.bool _)) (opv_pick rfl rfl) rfl ?_
                  refine RO.opc (opv_move rfl) (fun h35 => ?_) (fun h35 => ?_)
                  · try simp only [decide_eq_true_eq, decide_eq_false_iff_not, beq_iff_eq, beq_eq_false_iff_ne, bne_iff_ne, bne_eq_false_iff_eq, Int.not_lt, Int.not_le, ne_eq, Bool.not_eq_true', Bool.not_eq_false', gt_iff_lt, ge_iff_le] at h35
                    refine RO.opgv (v' := .d (enc _)) rfl (opv_load_term rfl rfl rfl) rfl ?_
                    refine RO.opgv (v' := .d (enc _)) rfl (opv_load_term rfl rfl rfl) rfl ?_
                    refine RO.opgv (v' := .d (.int _ _)) rfl (opv_callF (compare_fn a a (by omega) (by omega)) rfl rfl rfl trivial) rfl ?_
                    refine RO.opgv (v' := .d (.bool _)) rfl (opv_bin rfl rfl rfl) rfl ?_
                    refine RO.opv (v' := .d (.bool _)) (opv_pick rfl rfl) rfl ?_
                    refine RO.opv (v' := .d (.bool _)) (opv_assign rfl) rfl ?_
                    refine RO.nil ?_
                    refine Runs.ret ?_
                    refine EndQ.tmp (.inr rfl) rfl rfl 0 (by exact Nat.le_refl _) (by exact Nat.zero_le _) trivial ⟨?_, rfl⟩
                    first
                      | rfl
                      | (refine bool_eq ?_; first | (rw [compare_refl]; rfl) | (exfalso; omega) | (simp; omega))
                  · try simp only [decide_eq_true_eq, decide_eq_false_iff_not, beq_iff_eq, beq_eq_false_iff_ne, bne_iff_ne, bne_eq_false_iff_eq, Int.not_lt, Int.not_le, ne_eq, Bool.not_eq_true', Bool.not_eq_false', gt_iff_lt, ge_iff_le] at h35
                    refine RO.off rfl ?_
                    refine RO.off rfl ?_
                    refine RO.off rfl ?_
                    refine RO.off rfl ?_
                    refine RO.opv (v' := .d (.bool false)) (opv_pick rfl rfl) rfl ?_
                    refine RO.opv (v' := .d (.bool false)) (opv_assign rfl) rfl ?_
                    refine RO.nil ?_
                    refine Runs.ret ?_
                    refine EndQ.tmp (.inr rfl) rfl rfl 0 (by exact Nat.le_refl _) (by exact Nat.zero_le _) trivial ⟨?_, rfl⟩
                    first
                      | rfl
                      | (refine bool_eq ?_; first | (rw [compare_refl]; rfl) | (exfalso; omega) | (simp; omega))
            · try simp only [decide_eq_true_eq, decide_eq_false_iff_not, beq_iff_eq, beq_eq_false_iff_ne, bne_iff_ne, bne_eq_false_iff_eq, Int.not_lt, Int.not_le, ne_eq, Bool.not_eq_true', Bool.not_eq_false', gt_iff_lt, ge_iff_le] at h32
              refine RO.opgv (v' := .d (.int _ _)) rfl (opv_move rfl) rfl ?_
              refine RO.opgv (v' := .d (.bool _)) rfl (opv_bin rfl rfl rfl) rfl ?_
              refine RO.opgv (v' := .d (.bool _)) rfl (opv_pick rfl rfl) rfl ?_
              refine RO.opgc rfl (opv_move rfl) (fun h36 => ?_) (fun h36 => ?_)
              · try simp only [decide_eq_true_eq, decide_eq_false_iff_not, beq_iff_eq, beq_eq_false_iff_ne, bne_iff_ne, bne_eq_false_iff_eq, Int.not_lt, Int.not_le, ne_eq, Bool.not_eq_true', Bool.not_eq_false', gt_iff_lt, ge_iff_le] at h36
                refine RO.off rfl ?_
                refine RO.off rfl ?_
                refine RO.opgv (v' := .d (.bool true)) rfl (opv_pick rfl rfl) rfl ?_
                refine RO.opv (v' := .d (.bool true)) (opv_pick rfl rfl) rfl ?_
                refine RO.opv (v' := .d (.bool true)) (opv_move rfl) rfl ?_
                refine RO.opgv (v' := .d (.int _ _)) rfl (opv_move rfl) rfl ?_
                refine RO.opgv (v' := .d (.bool _)) rfl (opv_bin rfl rfl rfl) rfl ?_
                refine RO.opgc rfl (opv_move rfl) (fun h37 => ?_) (fun h37 => ?_)
                · try simp only [decide_eq_true_eq, decide_eq_false_iff_not, beq_iff_eq, beq_eq_false_iff_ne, bne_iff_ne, bne_eq_false_iff_eq, Int.not_lt, Int.not_le, ne_eq, Bool.not_eq_true', Bool.not_eq_false', gt_iff_lt, ge_iff_le] at h37
                  refine RO.off rfl ?_
                  refine RO.off rfl ?_
                  refine RO.opgv (v' := .d (.bool true)) rfl (opv_pick rfl rfl) rfl ?_
                  refine RO.opgv (v' := .d (.bool true)) rfl (opv_move rfl) rfl ?_
                  refine RO.off rfl ?_
                  refine RO.off rfl ?_
                  refine RO.opgv (v' := .d (.bool true)) rfl (opv_pick rfl rfl) rfl ?_
                  refine RO.opv (v' := .d (.bool true)) (opv_pick rfl rfl) rfl ?_
                  refine RO.opv (v' := .d (.bool true)) (opv_move rfl) rfl ?_
                  refine RO.opgv (v' := .d (enc _)) rfl (opv_load_term rfl rfl rfl) rfl ?_
                  refine RO.opgv (v' := .d (enc _)) rfl (opv_load_term rfl rfl rfl) rfl ?_
                  refine RO.opgv (v' := .d (.int _ _)) rfl (opv_callF (compare_fn a a (by omega) (by omega)) rfl rfl rfl trivial) rfl ?_
                  refine RO.opgv (v' := .d (.bool _)) rfl (opv_bin rfl rfl rfl) rfl ?_
                  refine RO.opv (v' := .d (.bool _)) (opv_pick rfl rfl) rfl ?_
                  refine RO.opv (v' := .d (.bool _)) (opv_assign rfl) rfl ?_
                  refine RO.nil ?_
                  refine Runs.ret ?_
                  refine EndQ.tmp (.inr rfl) rfl rfl 0 (by exact Nat.le_refl _) (by exact Nat.zero_le _) trivial ⟨?_, rfl⟩
                  first
                    | rfl
                    | (refine bool_eq ?_; first | (rw [compare_refl]; rfl) | (exfalso; omega) | (simp; omega))
                · try simp only [decide_eq_true_eq, decide_eq_false_iff_not, beq_iff_eq, beq_eq_false_iff_ne, bne_iff_ne, bne_eq_false_iff_eq, Int.not_lt, Int.not_le, ne_eq, Bool.not_eq_true', Bool.not_eq_false', gt_iff_lt, ge_iff_le] at h37
                  refine RO.opgv (v' := .d (.int _ _)) rfl (opv_move rfl) rfl ?_
                  refine RO.opgv (v' := .d (.bool _)) rfl (opv_bin rfl rfl rfl) rfl ?_
                  refine RO.opgv (v' := .d (.bool _)) rfl (opv_pick rfl rfl) rfl ?_
                  refine RO.opgc rfl (opv_move rfl) (fun h38 => ?_) (fun h38 => ?_)
                  · try simp only [decide_eq_true_eq, decide_eq_false_iff_not, beq_iff_eq, beq_eq_false_iff_ne, bne_iff_ne, bne_eq_false_iff_eq, Int.not_lt, Int.not_le, ne_eq, Bool.not_eq_true', Bool.not_eq_false', gt_iff_lt, ge_iff_le] at h38
                    refine RO.off rfl ?_
                    refine RO.off rfl ?_
                    refine RO.opgv (v' := .d (.bool true)) rfl (opv_pick rfl rfl) rfl ?_
                    refine RO.opv (v' := .d (.bool true)) (opv_pick rfl rfl) rfl ?_
                    refine RO.opv (v' := .d (.bool true)) (opv_move rfl) rfl ?_
                    refine RO.opgv (v' := .d (enc _)) rfl (opv_load_term rfl rfl rfl) rfl ?_
                    refine RO.opgv (v' := .d (enc _)) rfl (opv_load_term rfl rfl rfl) rfl ?_
                    refine RO.opgv (v' := .d (.int _ _)) rfl (opv_callF (compare_fn a a (by omega) (by omega)) rfl rfl rfl trivial) rfl ?_
                    refine RO.opgv (v' := .d (.bool _)) rfl (opv_bin rfl rfl rfl) rfl ?_
                    refine RO.opv (v' := .d (.bool _)) (opv_pick rfl rfl) rfl ?_
                    refine RO.opv (v' := .d (.bool _)) (opv_assign rfl) rfl ?_
                    refine RO.nil ?_
                    refine Runs.ret ?_
                    refine EndQ.tmp (.inr rfl) rfl rfl 0 (by exact Nat.le_refl _) (by exact Nat.zero_le _) trivial ⟨?_, rfl⟩
                    first
                      | rfl
                      | (refine bool_eq ?_; first | (rw [compare_refl]; rfl) | (exfalso; omega) | (simp; omega))
                  · try simp only [decide_eq_true_eq, decide_eq_false_iff_not, beq_iff_eq, beq_eq_false_iff_ne, bne_iff_ne, bne_eq_false_iff_eq, Int.not_lt, Int.not_le, ne_eq, Bool.not_eq_true', Bool.not_eq_false', gt_iff_lt, ge_iff_le] at h38
                    refine RO.opgv (v' := .d (.int _ _)) rfl (opv_move rfl) rfl ?_
                    refine RO.opgv (v' := .d (.bool _)) rfl (opv_bin rfl rfl rfl) rfl ?_
                    refine RO.opgv (v' := .d (.bool _)) rfl (opv_pick rfl rfl) rfl ?_
                    refine RO.opv (v' := .d (.bool _)) (opv_pick rfl rfl) rfl ?_
                    refine RO.opc (opv_move rfl) (fun h39 => ?_) (fun h39 => ?_)
                    · try simp only [decide_eq_true_eq, decide_eq_false_iff_not, beq_iff_eq, beq_eq_false_iff_ne, bne_iff_ne, bne_eq_false_iff_eq, Int.not_lt, Int.not_le, ne_eq, Bool.not_eq_true', Bool.not_eq_false', gt_iff_lt, ge_iff_le] at h39
                      refine RO.opgv (v' := .d (enc _)) rfl (opv_load_term rfl rfl rfl) rfl ?_
                      refine RO.opgv (v' := .d (enc _)) rfl (opv_load_term rfl rfl rfl) rfl ?_
                      refine RO.opgv (v' := .d (.int _ _)) rfl (opv_callF (compare_fn a a (by omega) (by omega)) rfl rfl rfl trivial) rfl ?_
                      refine RO.opgv (v' := .d (.bool _)) rfl (opv_bin rfl rfl rfl) rfl ?_
                      refine RO.opv (v' := .d (.bool _)) (opv_pick rfl rfl) rfl ?_
                      refine RO.opv (v' := .d (.bool _)) (opv_assign rfl) rfl ?_
                      refine RO.nil ?_
                      refine Runs.ret ?_
                      refine EndQ.tmp (.inr rfl) rfl rfl 0 (by exact Nat.le_refl _) (by exact Nat.zero_le _) trivial ⟨?_, rfl⟩
                      first
                        | rfl
                        | (refine bool_eq ?_; first | (rw [compare_refl]; rfl) | (exfalso; omega) | (simp; omega))
                    · try simp only [decide_eq_true_eq, decide_eq_false_iff_not, beq_iff_eq, beq_eq_false_iff_ne, bne_iff_ne, bne_eq_false_iff_eq, Int.not_lt, Int.not_le, ne_eq, Bool.not_eq_true', Bool.not_eq_false', gt_iff_lt, ge_iff_le] at h39
                      refine RO.off rfl ?_
                      refine RO.off rfl ?_
                      refine RO.off rfl ?_
                      refine RO.off rfl ?_
                      refine RO.opv (v' := .d (.bool false)) (opv_pick rfl rfl) rfl ?_
                      refine RO.opv (v' := .d (.bool false)) (opv_assign rfl) rfl ?_
                      refine RO.nil ?_
                      refine Runs.ret ?_
                      refine EndQ.tmp (.inr rfl) rfl rfl 0 (by exact Nat.le_refl _) (by exact Nat.zero_le _) trivial ⟨?_, rfl⟩
                      first
                        | rfl
                        | (refine bool_eq ?_; first | (rw [compare_refl]; rfl) | (exfalso; omega) | (simp; omega))
              · try simp only [decide_eq_true_eq, decide_eq_false_iff_not, beq_iff_eq, beq_eq_false_iff_ne, bne_iff_ne, bne_eq_false_iff_eq, Int.not_lt, Int.not_le, ne_eq, Bool.not_eq_true', Bool.not_eq_false', gt_iff_lt, ge_iff_le] at h36
                refine RO.opgv (v' := .d (.int _ _)) rfl (opv_move rfl) rfl ?_
                refine RO.opgv (v' := .d (.bool _)) rfl (opv_bin rfl rfl rfl) rfl ?_
                refine RO.opgv (v' := .d (.bool _)) rfl (opv_pick rfl rfl) rfl ?_
                refine RO.opv (v' := .d (.bool _)) (opv_pick rfl rfl) rfl ?_
                refine RO.opc (opv_move rfl) (fun h40 => ?_) (fun h40 => ?_)
                · try simp only [decide_eq_true_eq, decide_eq_false_iff_not, beq_iff_eq, beq_eq_false_iff_ne, bne_iff_ne, bne_eq_false_iff_eq, Int.not_lt, Int.not_le, ne_eq, Bool.not_eq_true', Bool.not_eq_false', gt_iff_lt, ge_iff_le] at h40
                  refine RO.opgv (v' := .d (.int _ _)) rfl (opv_move rfl) rfl ?_
                  refine RO.opgv (v' := .d (.bool _)) rfl (opv_bin rfl rfl rfl) rfl ?_
                  refine RO.opgc rfl (opv_move rfl) (fun h41 => ?_) (fun h41 => ?_)
                  · try simp only [decide_eq_true_eq, decide_eq_false_iff_not, beq_iff_eq, beq_eq_false_iff_ne, bne_iff_ne, bne_eq_false_iff_eq, Int.not_lt, Int.not_le, ne_eq, Bool.not_eq_true', Bool.not_eq_false', gt_iff_lt, ge_iff_le] at h41
                    refine RO.off rfl ?_
                    refine RO.off rfl ?_
                    refine RO.opgv (v' := .d (.bool true)) rfl (opv_pick rfl rfl) rfl ?_
                    refine RO.opgv (v' := .d (.bool true)) rfl (opv_move rfl) rfl ?_
                    refine RO.off rfl ?_
                    refine RO.off rfl ?_
                    refine RO.opgv (v' := .d (.bool true)) rfl (opv_pick rfl rfl) rfl ?_
                    refine RO.opv (v' := .d (.bool true)) (opv_pick rfl rfl) rfl ?_
                    refine RO.opv (v' := .d (.bool true)) (opv_move rfl) rfl ?_
                    refine RO.opgv (v' := .d (enc _)) rfl (opv_load_term rfl rfl rfl) rfl ?_
                    refine RO.opgv (v' := .d (enc _)) rfl (opv_load_term rfl rfl rfl) rfl ?_
                    refine RO.opgv (v' := .d (.int _ _)) rfl (opv_callF (compare_fn a a (by omega) (by omega)) rfl rfl rfl trivial) rfl ?_
                    refine RO.opgv (v' := .d (.bool _)) rfl (opv_bin rfl rfl rfl) rfl ?_
                    refine RO.opv (v' := .d (.bool _)) (opv_pick rfl rfl) rfl ?_
                    refine RO.opv (v' := .d (.bool _)) (opv_assign rfl) rfl ?_
                    refine RO.nil ?_
                    refine Runs.ret ?_
                    refine EndQ.tmp (.inr rfl) rfl rfl 0 (by exact Nat.le_refl _) (by exact Nat.zero_le _) trivial ⟨?_, rfl⟩
                    first
                      | rfl
                      | (refine bool_eq ?_; first | (rw [compare_refl]; rfl) | (exfalso; omega) | (simp; omega))
                  · try simp only [decide_eq_true_eq, decide_eq_false_iff_not, beq_iff_eq, beq_eq_false_iff_ne, bne_iff_ne, bne_eq_false_iff_eq, Int.not_lt, Int.not_le, ne_eq, Bool.not_eq_true', Bool.not_eq_false', gt_iff_lt, ge_iff_le] at h41
                    refine RO.opgv (v' := .d (.int _ _)) rfl (opv_move rfl) rfl ?_
                    refine RO.opgv (v' := .d (.bool _)) rfl (opv_bin rfl rfl rfl) rfl ?_
                    refine RO.opgv (v' := .d (.bool _)) rfl (opv_pick rfl rfl) rfl ?_
                    refine RO.opgc rfl (opv_move rfl) (fun h42 => ?_) (fun h42 => ?_)
                    · try simp only [decide_eq_true_eq, decide_eq_false_iff_not, beq_iff_eq, beq_eq_false_iff_ne, bne_iff_ne, bne_eq_false_iff_eq, Int.not_lt, Int.not_le, ne_eq, Bool.not_eq_true', Bool.not_eq_false', gt_iff_lt, ge_iff_le] at h42
                      refine RO.off rfl ?_
                      refine RO.off rfl ?_
                      refine RO.opgv (v' := .d (.bool true)) rfl (opv_pick rfl rfl) rfl ?_
                      refine RO.opv (v' := .d (.bool true)) (opv_pick rfl rfl) rfl ?_
                      refine RO.opv (v' := .d (.bool true)) (opv_move rfl) rfl ?_
                      refine RO.opgv (v' := .d (enc _)) rfl (opv_load_term rfl rfl rfl) rfl ?_
                      refine RO.opgv (v' := .d (enc _)) rfl (opv_load_term rfl rfl rfl) rfl ?_
                      refine RO.opgv (v' := .d (.int _ _)) rfl (opv_callF (compare_fn a a (by omega) (by omega)) rfl rfl rfl trivial) rfl ?_
                      refine RO.opgv (v' := .d (.bool _)) rfl (opv_bin rfl rfl rfl) rfl ?_
                      refine RO.opv (v' := .d (.bool _)) (opv_pick rfl rfl) rfl ?_
                      refine RO.opv (v' := .d (.bool _)) (opv_assign rfl) rfl ?_
                      refine RO.nil ?_
                      refine Runs.ret ?_
                      refine EndQ.tmp (.inr rfl) rfl rfl 0 (by exact Nat.le_refl _) (by exact Nat.zero_le _) trivial ⟨?_, rfl⟩
                      first
                        | rfl
                        | (refine bool_eq ?_; first | (rw [compare_refl]; rfl) | (exfalso; omega) | (simp; omega))
                    · try simp only [decide_eq_true_eq, decide_eq_false_iff_not, beq_iff_eq, beq_eq_false_iff_ne, bne_iff_ne, bne_eq_false_iff_eq, Int.not_lt, Int.not_le, ne_eq, Bool.not_eq_true', Bool.not_eq_false', gt_iff_lt, ge_iff_le] at h42
                      refine RO.opgv (v' := .d (.int _ _)) rfl (opv_move rfl) rfl ?_
                      refine RO.opgv (v' := .d (.bool _)) rfl (opv_bin rfl rfl rfl) rfl ?_
                      refine RO.opgv (v' := .d (.bool _)) rfl (opv_pick rfl rfl) rfl ?_
                      refine RO.opv (v' := .d (.bool _)) (opv_pick rfl rfl) rfl ?_
                      refine RO.opc (opv_move rfl) (fun h43 => ?_) (fun h43 => ?_)
                      · try simp only [decide_eq_true_eq, decide_eq_false_iff_not, beq_iff_eq, beq_eq_false_iff_ne, bne_iff_ne, bne_eq_false_iff_eq, Int.not_lt, Int.not_le, ne_eq, Bool.not_eq_true', Bool.not_eq_false', gt_iff_lt, ge_iff_le] at h43
                        refine RO.opgv (v' := .d (enc _)) rfl (opv_load_term rfl rfl rfl) rfl ?_
                        refine RO.opgv (v' := .d (enc _)) rfl (opv_load_term rfl rfl rfl) rfl ?_
                        refine RO.opgv (v' := .d (.int _ _)) rfl (opv_callF (compare_fn a a (by omega) (by omega)) rfl rfl rfl trivial) rfl ?_
                        refine RO.opgv (v' := .d (.bool _)) rfl (opv_bin rfl rfl rfl) rfl ?_
                        refine RO.opv (v' := .d (.bool _)) (opv_pick rfl rfl) rfl ?_
                        refine RO.opv (v' := .d (.bool _)) (opv_assign rfl) rfl ?_
                        refine RO.nil ?_
                        refine Runs.ret ?_
                        refine EndQ.tmp (.inr rfl) rfl rfl 0 (by exact Nat.le_refl _) (by exact Nat.zero_le _) trivial ⟨?_, rfl⟩
                        first
                          | rfl
                          | (refine bool_eq ?_; first | (rw [compare_refl]; rfl) | (exfalso; omega) | (simp; omega))
                      · try simp only [decide_eq_true_eq, decide_eq_false_iff_not, beq_iff_eq, beq_eq_false_iff_ne, bne_iff_ne, bne_eq_false_iff_eq, Int.not_lt, Int.not_le, ne_eq, Bool.not_eq_true', Bool.not_eq_false', gt_iff_lt, ge_iff_le] at h43
                        refine RO.off rfl ?_
                        refine RO.off rfl ?_
                        refine RO.off rfl ?_
                        refine RO.off rfl ?_
                        refine RO.opv (v' := .d (.bool false)) (opv_pick rfl rfl) rfl ?_
                        refine RO.opv (v' := .d (.bool false)) (opv_assign rfl) rfl ?_
                        refine RO.nil ?_
                        refine Runs.ret ?_
                        refine EndQ.tmp (.inr rfl) rfl rfl 0 (by exact Nat.le_refl _) (by exact Nat.zero_le _) trivial ⟨?_, rfl⟩
                        first
                          | rfl
                          | (refine bool_eq ?_; first | (rw [compare_refl]; rfl) | (exfalso; omega) | (simp; omega))
                · try simp only [decide_eq_true_eq, decide_eq_false_iff_not, beq_iff_eq, beq_eq_false_iff_ne, bne_iff_ne, bne_eq_false_iff_eq, Int.not_lt, Int.not_le, ne_eq, Bool.not_eq_true', Bool.not_eq_false', gt_iff_lt, ge_iff_le] at h40
                  refine RO.off rfl ?_
                  refine RO.off rfl ?_
                  refine RO.off rfl ?_
                  refine RO.off rfl ?_
                  refine RO.off rfl ?_
                  refine RO.off rfl ?_
                  refine RO.off rfl ?_
                  refine RO.off rfl ?_
                  refine RO.off rfl ?_
                  refine RO.off rfl ?_
                  refine RO.opv (v' := .d (.bool false)) (opv_pick rfl rfl) rfl ?_
                  refine RO.opv (v' := .d (.bool false)) (opv_move rfl) rfl ?_
                  refine RO.off rfl ?_
                  refine RO.off rfl ?_
                  refine RO.off rfl ?_
                  refine RO.off rfl ?_
                  refine RO.opv (v' := .d (.bool false)) (opv_pick rfl rfl) rfl ?_
                  refine RO.opv (v' := .d (.bool false)) (opv_assign rfl) rfl ?_
                  refine RO.nil ?_
                  refine Runs.ret ?_
                  refine EndQ.tmp (.inr rfl) rfl rfl 0 (by exact Nat.le_refl _) (by exact Nat.zero_le _) trivial ⟨?_, rfl⟩
                  first
                    | rfl
                    | (refine bool_eq ?_; first | (rw [compare_refl]; rfl) | (exfalso; omega) | (simp; omega))
end Go.Proofs.Ythpiggjclhnkcaa.AM
