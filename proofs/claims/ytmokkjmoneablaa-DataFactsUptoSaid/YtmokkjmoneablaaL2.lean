import Derived.Test.YtmokkjmoneablaaL0
namespace Go.Proofs.Ytmokkjmoneablaa.AM
open Go
set_option linter.unusedVariables false
set_option linter.unusedSimpArgs false
theorem dataFacts_fn (h body : Term) (lv : Int) (g1 : h.bulk ≤ 2 ^ 20) (_g1' : h.fits) (g2 : body.bulk ≤ 2 ^ 20) (_g2' : body.fits) (g3 : 0 ≤ lv) (g3' : lv ≤ 255) : Fn Try.prog 5 [.d (enc h), .d (enc body), .d (.int .u8 lv)] [] (.d (.bool true)) [] := by
  have hk : 3 < 16 := by decide
  obtain ⟨x, x0⟩ : ∃ x : Int, lv.tmod 4 = x := ⟨_, rfl⟩
  have x1 : 0 ≤ x ∧ x ≤ ((3 : Nat) : Int) := by rw [Int.tmod_eq_emod_of_nonneg g3] at x0; omega
  have hA : parseL (C 3) (Term.node 3 0 ncol [(.node 2 x ⟨#[]⟩ []), (Term.node 3 0 neck [h, body])]) = parse1 x (Term.node 3 0 neck [h, body]) := parse_level hk x1.1 x1.2 h body
  have hB : parseL (C 3) (Term.node 3 0 neck [h, body]) = parse1 (C 3).bottom (Term.node 3 0 neck [h, body]) := parse_rule (C 3) h body
  have hE := parse1_err x (C 3).bottom h body
  have hC := parse1_cases x h body
  have hD := parse1_cases (C 3).bottom h body
  have hbR : Term.bulk (Term.node 3 0 neck [h, body]) = 2 + (h.bulk + (body.bulk + 0)) + 1 := rfl
  have hbL : Term.bulk (Term.node 3 0 ncol [(.node 2 x ⟨#[]⟩ []), (Term.node 3 0 neck [h, body])]) = 2 + ((0 + 0 + 1) + (Term.bulk (Term.node 3 0 neck [h, body]) + 0)) + 1 := rfl
  have sA := parseL_small (C 3) (Term.node 3 0 ncol [(.node 2 x ⟨#[]⟩ []), (Term.node 3 0 neck [h, body])])
  have sH := parseL_small (C 3) h
  refine Does.run Try.func5 rfl Try.ntmps5 rfl fun K hK => ?_
  refine Runs.rseq ?_
  refine RO.opn (v' := .ref 0 0) (O' := [_]) (opv_box_term rfl) rfl rfl ?_
  refine RO.opn (v' := .ref 1 0) (O' := [_, _]) (opv_box_term rfl) rfl rfl ?_
  refine RO.opv (v' := .d (.bool false)) (opv_assign rfl) rfl ?_
  refine RO.nil ?_
  refine Runs.has [(2, .d (.int _ _)), (3, .ref 0 0), (4, .ref 1 0), (6, .d (.bool false))] ⟨rfl, rfl, rfl, rfl, trivial⟩ ?_
  refine Runs.rseq ?_
  refine RO.opv (v' := .d (.bool true)) (opv_callF (shown_fn) rfl rfl rfl trivial) rfl ?_
  refine RO.opv (v' := .d (.bool true)) (opv_assign rfl) rfl ?_
  refine RO.nil ?_
  refine Runs.has [(2, .d (.int _ _)), (3, .ref 0 0), (4, .ref 1 0), (6, .d (.bool false)), (7, .d (.bool true))] ⟨rfl, rfl, rfl, rfl, rfl, trivial⟩ ?_
  refine Runs.rseq ?_
  refine RO.opv (v' := .d (.list (encPs _))) (opv_callF (chainp_fn 3 (by decide)) rfl rfl rfl trivial) rfl ?_
  refine RO.opv (opv_callF (lnewC_fn 3 (by decide)) rfl rfl rfl ⟨trivial, trivial, trivial⟩) rfl ?_
  refine RO.opv (opv_move rfl) rfl ?_
  refine RO.opv (v' := .d (encL _)) (opv_extract rfl rfl) rfl ?_
  refine RO.opv (v' := .d (.int _ _)) (opv_extract rfl rfl) rfl ?_
  refine RO.opv (v' := .d (encL _)) (opv_assign rfl) rfl ?_
  refine RO.opv (v' := .d (.int _ _)) (opv_assign rfl) rfl ?_
  refine RO.nil ?_
  refine Runs.has [(2, .d (.int _ _)), (3, .ref 0 0), (4, .ref 1 0), (6, .d (.bool false)), (7, .d (.bool true)), (8, .d (encL _))] ⟨rfl, rfl, rfl, rfl, rfl, rfl, trivial⟩ ?_
  refine Runs.seq ?_
  refine Runs.rseq ?_
  refine RO.opv (v' := .d (encL _)) (opv_move rfl) rfl ?_
  refine RO.opv (v' := .d (.bool false)) (opv_eqnil rfl rfl rfl) rfl ?_
  refine RO.opv (v' := .d (.bool false)) (opv_move rfl) rfl ?_
  refine RO.opgv (v' := .d (enc _)) rfl (opv_load_term rfl rfl rfl) rfl ?_
  refine RO.opgv (v' := .d (enc _)) rfl (opv_load_term rfl rfl rfl) rfl ?_
  refine RO.opgv (v' := .d (.list (encs _))) rfl (opv_bs_term2 rfl rfl ) rfl ?_
  refine RO.opgv (v' := .d (.bool _)) rfl (opv_callF (few_fn [h, body] (by show h.bulk + (body.bulk + 0) ≤ _; omega)) rfl rfl rfl trivial) rfl ?_
  refine RO.opgv (v' := .d (.bool _)) rfl (opv_not rfl rfl) rfl ?_
  refine RO.opc (opv_pick rfl rfl) (fun h1 => ?_) (fun h1 => ?_)
  · try simp only [decide_eq_true_eq, decide_eq_false_iff_not, beq_iff_eq, beq_eq_false_iff_ne, bne_iff_ne, bne_eq_false_iff_eq, Int.not_lt, Int.not_le, ne_eq, Bool.not_eq_true', Bool.not_eq_false', gt_iff_lt, ge_iff_le] at h1
    refine RO.nil ?_
    refine Runs.condT rfl ?_
    refine Runs.has [(2, .d (.int _ _)), (3, .ref 0 0), (4, .ref 1 0), (6, .d (.bool false)), (7, .d (.bool true)), (8, .d (encL _))] ⟨rfl, rfl, rfl, rfl, rfl, rfl, trivial⟩ ?_
    refine Runs.rseq ?_
    refine RO.opv (v' := .d (.bool true)) (opv_move rfl) rfl ?_
    refine RO.opv (v' := .d (.bool true)) (opv_move rfl) rfl ?_
    refine RO.opgv (v' := .d (encL _)) rfl (opv_move rfl) rfl ?_
    refine RO.opgv (v' := .d (.bool true)) rfl (opv_nenil rfl rfl rfl) rfl ?_
    refine RO.opv (v' := .d (.bool true)) (opv_pick rfl rfl) rfl ?_
    refine RO.opv (v' := .d (.bool true)) (opv_assign rfl) rfl ?_
    refine RO.nil ?_
    refine Runs.ret ?_
    refine thenQ_ret ?_
    refine EndQ.tmp (.inr rfl) rfl rfl 0 (by exact Nat.le_refl _) (by exact Nat.zero_le _) trivial ⟨?_, rfl⟩
    rfl
  · try simp only [decide_eq_true_eq, decide_eq_false_iff_not, beq_iff_eq, beq_eq_false_iff_ne, bne_iff_ne, bne_eq_false_iff_eq, Int.not_lt, Int.not_le, ne_eq, Bool.not_eq_true', Bool.not_eq_false', gt_iff_lt, ge_iff_le] at h1
    refine RO.nil ?_
    refine Runs.condF rfl ?_
    refine Runs.skip ?_
    refine thenQ_normal ?_
    refine Runs.has [(2, .d (.int _ _)), (3, .ref 0 0), (4, .ref 1 0), (6, .d (.bool false)), (7, .d (.bool true)), (8, .d (encL _))] ⟨rfl, rfl, rfl, rfl, rfl, rfl, trivial⟩ ?_
    refine Runs.rseq ?_
    refine RO.opv (v' := .d (.int _ _)) (opv_move rfl) rfl ?_
    refine RO.opv (v' := .d (.int _ _)) (opv_arith (r := x) rfl rfl (by simp only [binD, if_true]; rw [if_neg (by decide), x0])) rfl ?_
    refine RO.opv (v' := .d (.int _ _)) (opv_conv (r := x) rfl (wrap64 (by omega) (by omega))) rfl ?_
    refine RO.opv (v' := .d (.int _ _)) (opv_assign rfl) rfl ?_
    refine RO.nil ?_
    refine Runs.has [(3, .ref 0 0), (4, .ref 1 0), (6, .d (.bool false)), (7, .d (.bool true)), (8, .d (encL _)), (10, .d (.int _ _))] ⟨rfl, rfl, rfl, rfl, rfl, rfl, trivial⟩ ?_
    refine Runs.rseq ?_
    refine RO.opv (v' := .d (enc _)) (opv_load_term rfl rfl rfl) rfl ?_
    refine RO.opv (v' := .d (enc _)) (opv_load_term rfl rfl rfl) rfl ?_
    refine RO.opv (v' := .d (.list (encs _))) (opv_bs_term2 rfl rfl ) rfl ?_
    refine RO.opv (v' := .d (enc _)) (opv_callF (make_fn neck [h, body] (Nat.le_of_ble_eq_true rfl)) rfl rfl rfl trivial) rfl ?_
    refine RO.opn (v' := .ref 2 0) (O' := [_, _, _]) (opv_alloc) rfl rfl ?_
    refine RO.op0n (O' := [_, _, _]) (opv_store_term rfl rfl rfl (Nat.le_of_ble_eq_true rfl)) rfl ?_
    refine RO.nil ?_
    refine Runs.has [(3, .ref 0 0), (6, .d (.bool false)), (7, .d (.bool true)), (8, .d (encL _)), (10, .d (.int _ _)), (11, .ref 2 0)] ⟨rfl, rfl, rfl, rfl, rfl, rfl, trivial⟩ ?_
    refine Runs.seq ?_
    refine Runs.drawn (by kernel_rfl) [2] [true, true, true, true, true, true, true, true, true, true, false, false, false] [false, false, false, false, false, false, false, false, false, false, true, true, false] (by decide +kernel) ?_
    refine RD.opa (v' := .d (encL _)) (fun O' hkeep => opv_move rfl) rfl ?_
    refine RD.opa (v' := .d (.int _ _)) (fun O' hkeep => opv_move rfl) rfl ?_
    refine RD.opa (v' := .d (enc _)) (fun O' hkeep => opv_callF (num_fn x) rfl rfl rfl trivial) rfl ?_
    refine RD.opa (v' := .d (enc _)) (fun O' hkeep => opv_load_term rfl (hkeep.1.trans rfl) rfl) rfl ?_
    refine RD.opa (v' := .d (.list (encs _))) (fun O' hkeep => opv_bs_term2 rfl rfl ) rfl ?_
    refine RD.opa (v' := .d (enc _)) (fun O' hkeep => opv_callF (make_fn ncol [.node 2 x ⟨#[]⟩ [], (Term.node 3 0 neck [h, body])] (Nat.le_of_ble_eq_true rfl)) rfl rfl rfl trivial) rfl ?_
    refine RD.opa (fun O' hkeep => opv_callF (parse_fn (C 3) (C_ok (by decide)) (Term.node 3 0 ncol [(.node 2 x ⟨#[]⟩ []), (Term.node 3 0 neck [h, body])]) (by omega)) rfl rfl rfl ⟨trivial, trivial, trivial⟩) rfl ?_
    refine RD.opa (fun O' hkeep => opv_move rfl) rfl ?_
    refine RD.opa (v' := .d (encCl _)) (fun O' hkeep => opv_extract rfl rfl) rfl ?_
    refine RD.opa (v' := .d (.int _ _)) (fun O' hkeep => opv_extract rfl rfl) rfl ?_
    refine RD.opn (v' := .ref 3 0) (O' := [_, _, _, _]) (opv_alloc) rfl rfl ⟨rfl, trivial⟩ ?_
    refine RD.op0n (O' := [_, _, _, _]) (opv_store_cl rfl rfl rfl rfl) rfl ⟨rfl, trivial⟩ ?_
    refine RD.opv (v' := .d (.int _ _)) (opv_assign rfl) rfl ?_
    refine RD.nil ?_
    refine thenQ_normal ?_
    refine Runs.has [(3, .ref 0 0), (6, .d (.bool false)), (7, .d (.bool true)), (8, .d (encL _)), (10, .d (.int _ _)), (11, .ref 2 0), (12, .ref 3 0), (13, .d (.int _ _))] ⟨rfl, rfl, rfl, rfl, rfl, rfl, rfl, rfl, trivial⟩ ?_
    refine Runs.rseq ?_
    refine RO.opv (v' := .d (encL _)) (opv_move rfl) rfl ?_
    refine RO.opv (v' := .d (enc _)) (opv_load_term rfl rfl rfl) rfl ?_
    refine RO.opv (opv_callF (parse_fn (C 3) (C_ok (by decide)) (Term.node 3 0 neck [h, body]) (by omega)) rfl rfl rfl ⟨trivial, trivial, trivial⟩) rfl ?_
    refine RO.opv (opv_move rfl) rfl ?_
    refine RO.opv (v' := .d (encCl _)) (opv_extract rfl rfl) rfl ?_
    refine RO.opv (v' := .d (.int _ _)) (opv_extract rfl rfl) rfl ?_
    refine RO.opn (v' := .ref 4 0) (O' := [_, _, _, _, _]) (opv_alloc) rfl rfl ?_
    refine RO.op0n (O' := [_, _, _, _, _]) (opv_store_cl rfl rfl rfl rfl) rfl ?_
    refine RO.opv (v' := .d (.int _ _)) (opv_assign rfl) rfl ?_
    refine RO.nil ?_
    refine Runs.has [(3, .ref 0 0), (6, .d (.bool false)), (7, .d (.bool true)), (8, .d (encL _)), (10, .d (.int _ _)), (11, .ref 2 0), (12, .ref 3 0), (13, .d (.int _ _)), (14, .ref 4 0), (15, .d (.int _ _))] ⟨rfl, rfl, rfl, rfl, rfl, rfl, rfl, rfl, rfl, rfl, trivial⟩ ?_
    refine Runs.seq ?_
    refine Runs.rseq ?_
    refine RO.opv (v' := .d (.int _ _)) (opv_move rfl) rfl ?_
    refine RO.opv (v' := .d (.int _ _)) (opv_move rfl) rfl ?_
    refine RO.opc (opv_bin rfl rfl rfl) (fun h2 => ?_) (fun h2 => ?_)
    · try simp only [decide_eq_true_eq, decide_eq_false_iff_not, beq_iff_eq, beq_eq_false_iff_ne, bne_iff_ne, bne_eq_false_iff_eq, Int.not_lt, Int.not_le, ne_eq, Bool.not_eq_true', Bool.not_eq_false', gt_iff_lt, ge_iff_le] at h2
      have hq := h2
      exact absurd (by rw [hA, hB]; exact hE) h2
    · try simp only [decide_eq_true_eq, decide_eq_false_iff_not, beq_iff_eq, beq_eq_false_iff_ne, bne_iff_ne, bne_eq_false_iff_eq, Int.not_lt, Int.not_le, ne_eq, Bool.not_eq_true', Bool.not_eq_false', gt_iff_lt, ge_iff_le] at h2
      have hq := h2
      refine RO.nil ?_
      refine Runs.condF rfl ?_
      refine Runs.skip ?_
      refine thenQ_normal ?_
      refine Runs.has [(3, .ref 0 0), (6, .d (.bool false)), (7, .d (.bool true)), (8, .d (encL _)), (10, .d (.int _ _)), (11, .ref 2 0), (12, .ref 3 0), (13, .d (.int _ _)), (14, .ref 4 0)] ⟨rfl, rfl, rfl, rfl, rfl, rfl, rfl, rfl, rfl, trivial⟩ ?_
      refine Runs.seq ?_
      refine Runs.rseq ?_
      refine RO.opv (v' := .d (.int _ _)) (opv_move rfl) rfl ?_
      refine RO.opc (opv_bin rfl rfl rfl) (fun h3 => ?_) (fun h3 => ?_)
      · try simp only [decide_eq_true_eq, decide_eq_false_iff_not, beq_iff_eq, beq_eq_false_iff_ne, bne_iff_ne, bne_eq_false_iff_eq, Int.not_lt, Int.not_le, ne_eq, Bool.not_eq_true', Bool.not_eq_false', gt_iff_lt, ge_iff_le] at h3
        have hok0 := h3
        refine RO.nil ?_
        refine Runs.condT rfl ?_
        refine Runs.has [(3, .ref 0 0), (6, .d (.bool false)), (7, .d (.bool true)), (8, .d (encL _)), (10, .d (.int _ _)), (11, .ref 2 0), (12, .ref 3 0), (14, .ref 4 0)] ⟨rfl, rfl, rfl, rfl, rfl, rfl, rfl, rfl, trivial⟩ ?_
        refine Runs.rseq ?_
        refine RO.opv (v' := .d (.bool true)) (opv_move rfl) rfl ?_
        refine RO.opv (v' := .d (.bool true)) (opv_move rfl) rfl ?_
        refine RO.opgv (v' := .ref 3 9) rfl (opv_field_ref rfl rfl) rfl ?_
        refine RO.opgv (v' := .d (.int _ _)) rfl (opv_load_ref rfl rfl rfl) rfl ?_
        refine RO.opgv (v' := .d (.bool _)) rfl (opv_bin rfl rfl rfl) rfl ?_
        refine RO.opv (v' := .d (.bool _)) (opv_pick rfl rfl) rfl ?_
        refine RO.opc (opv_move rfl) (fun h4 => ?_) (fun h4 => ?_)
        · try simp only [decide_eq_true_eq, decide_eq_false_iff_not, beq_iff_eq, beq_eq_false_iff_ne, bne_iff_ne, bne_eq_false_iff_eq, Int.not_lt, Int.not_le, ne_eq, Bool.not_eq_true', Bool.not_eq_false', gt_iff_lt, ge_iff_le] at h4
          refine RO.opgv (v' := .ref 3 1) rfl (opv_field_ref rfl rfl) rfl ?_
          refine RO.opgv (v' := .ref 3 4) rfl (opv_field_ref rfl rfl) rfl ?_
          refine RO.opgv (v' := .d (.list (encs _))) rfl (opv_load_ref rfl rfl rfl) rfl ?_
          refine RO.opgv (v' := .d (.int _ _)) rfl (opv_len_terms rfl) rfl ?_
          refine RO.opgv (v' := .d (.bool _)) rfl (opv_bin rfl rfl rfl) rfl ?_
          refine RO.opv (v' := .d (.bool _)) (opv_pick rfl rfl) rfl ?_
          refine RO.opv (v' := .d (.bool _)) (opv_assign rfl) rfl ?_
          refine RO.nil ?_
          refine Runs.ret ?_
          refine thenQ_ret ?_
          refine EndQ.tmp (.inr rfl) rfl rfl 0 (by exact Nat.le_refl _) (by exact Nat.zero_le _) trivial ⟨?_, rfl⟩
          refine bool_eq ?_
          rw [hA] at hok0 ⊢
          rcases hC with ⟨hc, hz⟩ | ⟨hk3, hcb, he⟩
          · rw [hz]; rfl
          · rw [he] at hok0; exact absurd rfl hok0
        · try simp only [decide_eq_true_eq, decide_eq_false_iff_not, beq_iff_eq, beq_eq_false_iff_ne, bne_iff_ne, bne_eq_false_iff_eq, Int.not_lt, Int.not_le, ne_eq, Bool.not_eq_true', Bool.not_eq_false', gt_iff_lt, ge_iff_le] at h4
          rw [hA] at h4 hok0
          rcases hC with ⟨hc, hz⟩ | ⟨hk3, hcb, he⟩
          · rw [hz] at h4; exact absurd rfl h4
          · rw [he] at hok0; exact absurd rfl hok0
      · try simp only [decide_eq_true_eq, decide_eq_false_iff_not, beq_iff_eq, beq_eq_false_iff_ne, bne_iff_ne, bne_eq_false_iff_eq, Int.not_lt, Int.not_le, ne_eq, Bool.not_eq_true', Bool.not_eq_false', gt_iff_lt, ge_iff_le] at h3
        have hok0 : (parseL (C 3) (Term.node 3 0 ncol [(.node 2 x ⟨#[]⟩ []), (Term.node 3 0 neck [h, body])])).2 = 0 := h3
        refine RO.nil ?_
        refine Runs.condF rfl ?_
        refine Runs.skip ?_
        refine thenQ_normal ?_
        refine Runs.has [(3, .ref 0 0), (6, .d (.bool false)), (7, .d (.bool true)), (8, .d (encL _)), (10, .d (.int _ _)), (11, .ref 2 0), (12, .ref 3 0), (14, .ref 4 0)] ⟨rfl, rfl, rfl, rfl, rfl, rfl, rfl, rfl, trivial⟩ ?_
        refine Runs.rseq ?_
        refine RO.opv (v' := .d (encL _)) (opv_move rfl) rfl ?_
        refine RO.opv (v' := .d (enc _)) (opv_load_term rfl rfl rfl) rfl ?_
        refine RO.opv (opv_callF (parse_fn (C 3) (C_ok (by decide)) h (by omega)) rfl rfl rfl ⟨trivial, trivial, trivial⟩) rfl ?_
        refine RO.opv (opv_move rfl) rfl ?_
        refine RO.opv (v' := .d (encCl _)) (opv_extract rfl rfl) rfl ?_
        refine RO.opv (v' := .d (.int _ _)) (opv_extract rfl rfl) rfl ?_
        refine RO.opn (v' := .ref 5 0) (O' := [_, _, _, _, _, _]) (opv_alloc) rfl rfl ?_
        refine RO.op0n (O' := [_, _, _, _, _, _]) (opv_store_cl rfl rfl rfl rfl) rfl ?_
        refine RO.opv (v' := .d (.int _ _)) (opv_assign rfl) rfl ?_
        refine RO.nil ?_
        refine Runs.has [(6, .d (.bool false)), (7, .d (.bool true)), (10, .d (.int _ _)), (11, .ref 2 0), (12, .ref 3 0), (14, .ref 4 0), (16, .ref 5 0), (17, .d (.int _ _))] ⟨rfl, rfl, rfl, rfl, rfl, rfl, rfl, rfl, trivial⟩ ?_
        refine Runs.seq ?_
        refine Runs.drawn (by kernel_rfl) [] [false, false, false, false, false, false, false, false, false, false, false, false, false, false, false, false, false, false, false, false, false, false, false, false, false, false, false, false, false, false, false, false, false, false, false, false, false, false, false, false, false] [false, false, false, false, false, false, false, false, false, false, false, false, false, false, false, false, false, false, false, false, false, false, false, false, false, false, false, false, false, false, false, false, false, false, false, false, false, false, false, false, false] (by decide +kernel) ?_
        refine RD.opv (v' := .d (.bool true)) (opv_move rfl) rfl ?_
        refine RD.opv (v' := .d (.bool true)) (opv_move rfl) rfl ?_
        refine RD.opgv (v' := .ref 3 0) rfl (opv_field_ref rfl rfl) rfl ?_
        refine RD.opgv (v' := .d (.int _ _)) rfl (opv_load_ref rfl rfl rfl) rfl ?_
        refine RD.opgv (v' := .d (.int _ _)) rfl (opv_move rfl) rfl ?_
        refine RD.opgv (v' := .d (.bool _)) rfl (opv_bin rfl rfl rfl) rfl ?_
        refine RD.opv (v' := .d (.bool _)) (opv_pick rfl rfl) rfl ?_
        refine RD.opc (opv_move rfl) (fun h5 => ?_) (fun h5 => ?_)
        · try simp only [decide_eq_true_eq, decide_eq_false_iff_not, beq_iff_eq, beq_eq_false_iff_ne, bne_iff_ne, bne_eq_false_iff_eq, Int.not_lt, Int.not_le, ne_eq, Bool.not_eq_true', Bool.not_eq_false', gt_iff_lt, ge_iff_le] at h5
          refine RD.opgv (v' := .ref 4 0) rfl (opv_field_ref rfl rfl) rfl ?_
          refine RD.opgv (v' := .d (.int _ _)) rfl (opv_load_ref rfl rfl rfl) rfl ?_
          refine RD.opgv (v' := .d (.bool _)) rfl (opv_bin rfl rfl rfl) rfl ?_
          refine RD.opv (v' := .d (.bool _)) (opv_pick rfl rfl) rfl ?_
          refine RD.opc (opv_move rfl) (fun h6 => ?_) (fun h6 => ?_)
          · try simp only [decide_eq_true_eq, decide_eq_false_iff_not, beq_iff_eq, beq_eq_false_iff_ne, bne_iff_ne, bne_eq_false_iff_eq, Int.not_lt, Int.not_le, ne_eq, Bool.not_eq_true', Bool.not_eq_false', gt_iff_lt, ge_iff_le] at h6
            refine RD.opgv (v' := .ref 3 1) rfl (opv_field_ref rfl rfl) rfl ?_
            refine RD.opgv (v' := .d (enc _)) rfl (opv_load_term rfl rfl rfl) rfl ?_
            refine RD.opgv (v' := .ref 3 5) rfl (opv_field_ref rfl rfl) rfl ?_
            refine RD.opgv (v' := .d (enc _)) rfl (opv_load_term rfl rfl rfl) rfl ?_
            refine RD.opgv (v' := .d (.list (encs _))) rfl (opv_bs_term2 rfl rfl ) rfl ?_
            refine RD.opgv (v' := .d (enc _)) rfl (opv_callF (make_fn neck [(parseL (C 3) (Term.node 3 0 ncol [(.node 2 x ⟨#[]⟩ []), (Term.node 3 0 neck [h, body])])).1.head, (parseL (C 3) (Term.node 3 0 ncol [(.node 2 x ⟨#[]⟩ []), (Term.node 3 0 neck [h, body])])).1.body] (Nat.le_of_ble_eq_true rfl)) rfl rfl rfl trivial) rfl ?_
            refine RD.opgv (v' := .d (enc _)) rfl (opv_load_term rfl rfl rfl) rfl ?_
            refine RD.opgv (v' := .d (.bool _)) rfl (opv_callF (variant_fn (Term.node 3 0 neck [(parseL (C 3) (Term.node 3 0 ncol [(.node 2 x ⟨#[]⟩ []), (Term.node 3 0 neck [h, body])])).1.head, (parseL (C 3) (Term.node 3 0 ncol [(.node 2 x ⟨#[]⟩ []), (Term.node 3 0 neck [h, body])])).1.body]) (Term.node 3 0 neck [h, body]) (by show 2 + ((parseL (C 3) (Term.node 3 0 ncol [(.node 2 x ⟨#[]⟩ []), (Term.node 3 0 neck [h, body])])).1.head.bulk + ((parseL (C 3) (Term.node 3 0 ncol [(.node 2 x ⟨#[]⟩ []), (Term.node 3 0 neck [h, body])])).1.body.bulk + 0)) + 1 ≤ _; have := sA.1; have := sA.2; omega) (by omega)) rfl rfl rfl trivial) rfl ?_
            refine RD.opv (v' := .d (.bool _)) (opv_pick rfl rfl) rfl ?_
            refine RD.opc (opv_move rfl) (fun h7 => ?_) (fun h7 => ?_)
            · try simp only [decide_eq_true_eq, decide_eq_false_iff_not, beq_iff_eq, beq_eq_false_iff_ne, bne_iff_ne, bne_eq_false_iff_eq, Int.not_lt, Int.not_le, ne_eq, Bool.not_eq_true', Bool.not_eq_false', gt_iff_lt, ge_iff_le] at h7
              refine RD.opgv (v' := .ref 3 9) rfl (opv_field_ref rfl rfl) rfl ?_
              refine RD.opgv (v' := .d (.int _ _)) rfl (opv_load_ref rfl rfl rfl) rfl ?_
              refine RD.opgv (v' := .d (enc _)) rfl (opv_load_term rfl rfl rfl) rfl ?_
              refine RD.opgv (v' := .d (.list (ints _))) rfl (opv_callF (vars_fn (Term.node 3 0 neck [h, body]) (by omega)) rfl rfl rfl trivial) rfl ?_
              refine RD.opgv (v' := .d (.int _ _)) rfl (opv_len_ints rfl) rfl ?_
              refine RD.opgv (v' := .d (.bool _)) rfl (opv_bin rfl rfl rfl) rfl ?_
              refine RD.opv (v' := .d (.bool _)) (opv_pick rfl rfl) rfl ?_
              refine RD.opc (opv_move rfl) (fun h8 => ?_) (fun h8 => ?_)
              · try simp only [decide_eq_true_eq, decide_eq_false_iff_not, beq_iff_eq, beq_eq_false_iff_ne, bne_iff_ne, bne_eq_false_iff_eq, Int.not_lt, Int.not_le, ne_eq, Bool.not_eq_true', Bool.not_eq_false', gt_iff_lt, ge_iff_le] at h8
                refine RD.opgv (v' := .d (.int _ _)) rfl (opv_move rfl) rfl ?_
                refine RD.opgv (v' := .d (.bool _)) rfl (opv_bin rfl rfl rfl) rfl ?_
                refine RD.opv (v' := .d (.bool _)) (opv_pick rfl rfl) rfl ?_
                refine RD.opc (opv_move rfl) (fun h9 => ?_) (fun h9 => ?_)
                · try simp only [decide_eq_true_eq, decide_eq_false_iff_not, beq_iff_eq, beq_eq_false_iff_ne, bne_iff_ne, bne_eq_false_iff_eq, Int.not_lt, Int.not_le, ne_eq, Bool.not_eq_true', Bool.not_eq_false', gt_iff_lt, ge_iff_le] at h9
                  refine RD.opgv (v' := .ref 5 5) rfl (opv_field_ref rfl rfl) rfl ?_
                  refine RD.opgv (v' := .d (enc _)) rfl (opv_load_term rfl rfl rfl) rfl ?_
                  refine RD.opgv (v' := .d (enc _)) rfl (opv_callF (atom_fn ntrue) rfl rfl rfl trivial) rfl ?_
                  refine RD.opgv (v' := .d (.bool _)) rfl (opv_callF (same_fn (parseL (C 3) h).1.body trueT (Nat.le_trans sH.2 (by omega)) (Nat.le_of_ble_eq_true (by decide +kernel))) rfl rfl rfl trivial) rfl ?_
                  refine RD.opv (v' := .d (.bool _)) (opv_pick rfl rfl) rfl ?_
                  refine RD.opv (v' := .d (.bool _)) (opv_assign rfl) rfl ?_
                  refine RD.nil ?_
                  refine thenQ_normal ?_
                  refine Runs.ret ?_
                  refine EndQ.tmp (.inr rfl) rfl rfl 0 (by exact Nat.le_refl _) (by exact Nat.zero_le _) trivial ⟨?_, rfl⟩
                  refine bool_eq ?_
                  rw [hA] at hok0
                  rcases hC with ⟨hc, hz⟩ | ⟨hk3, hcb, he⟩
                  · exact absurd hok0 hc
                  · rw [(parse_fact (C 3) hk3 hcb).2, same_refl]
                · try simp only [decide_eq_true_eq, decide_eq_false_iff_not, beq_iff_eq, beq_eq_false_iff_ne, bne_iff_ne, bne_eq_false_iff_eq, Int.not_lt, Int.not_le, ne_eq, Bool.not_eq_true', Bool.not_eq_false', gt_iff_lt, ge_iff_le] at h9
                  rw [hA] at hok0
                  rcases hC with ⟨hc, hz⟩ | ⟨hk3, hcb, he⟩
                  · exact absurd hok0 hc
                  · exact absurd (parse_fact (C 3) hk3 hcb).1 h9
              · try simp only [decide_eq_true_eq, decide_eq_false_iff_not, beq_iff_eq, beq_eq_false_iff_ne, bne_iff_ne, bne_eq_false_iff_eq, Int.not_lt, Int.not_le, ne_eq, Bool.not_eq_true', Bool.not_eq_false', gt_iff_lt, ge_iff_le] at h8
                rw [hA] at h8 hok0
                rcases hC with ⟨hc, hz⟩ | ⟨hk3, hcb, he⟩
                · exact absurd hok0 hc
                · rw [he] at h8; exact absurd rfl h8
            · try simp only [decide_eq_true_eq, decide_eq_false_iff_not, beq_iff_eq, beq_eq_false_iff_ne, bne_iff_ne, bne_eq_false_iff_eq, Int.not_lt, Int.not_le, ne_eq, Bool.not_eq_true', Bool.not_eq_false', gt_iff_lt, ge_iff_le] at h7
              rw [hA] at h7 hok0
              rcases hC with ⟨hc, hz⟩ | ⟨hk3, hcb, he⟩
              · exact absurd hok0 hc
              · rw [he] at h7; dsimp only at h7; rw [clause_norm, same_refl] at h7; cases h7
          · try simp only [decide_eq_true_eq, decide_eq_false_iff_not, beq_iff_eq, beq_eq_false_iff_ne, bne_iff_ne, bne_eq_false_iff_eq, Int.not_lt, Int.not_le, ne_eq, Bool.not_eq_true', Bool.not_eq_false', gt_iff_lt, ge_iff_le] at h6
            rw [hA] at hok0; rw [hB] at h6
            rcases hD with ⟨hc, hz⟩ | ⟨hk3, hcb, he⟩
            · exact absurd (hE.symm.trans hok0) hc
            · rw [he] at h6; exact absurd (C_bot hk) h6
        · try simp only [decide_eq_true_eq, decide_eq_false_iff_not, beq_iff_eq, beq_eq_false_iff_ne, bne_iff_ne, bne_eq_false_iff_eq, Int.not_lt, Int.not_le, ne_eq, Bool.not_eq_true', Bool.not_eq_false', gt_iff_lt, ge_iff_le] at h5
          rw [hA] at h5 hok0
          rcases hC with ⟨hc, hz⟩ | ⟨hk3, hcb, he⟩
          · exact absurd hok0 hc
          · rw [he] at h5; exact absurd rfl h5
end Go.Proofs.Ytmokkjmoneablaa.AM
