import Derived.Test.YtljmkgjemmoegaaL0
namespace Go.Proofs.Ytljmkgjemmoegaa.AM
open Go
set_option linter.unusedVariables false
set_option linter.unusedSimpArgs false
theorem comparePlain_fn (n : Int) (ts : List Term) (g1 : 0 ≤ n) (g1' : n ≤ 255) (g2 : bulks ts ≤ 2 ^ 20) (_g2' : fitss ts) : Fn Try.prog 8 [.d (.int .u8 n), .d (.list (encs ts))] [] (.d (.bool true)) [] := by
  obtain ⟨k, hkn⟩ : ∃ k : Nat, (k : Int) = n.tmod 16 := ⟨(n.tmod 16).toNat, by rw [Int.tmod_eq_emod_of_nonneg g1]; omega⟩
  have hk : k < 16 := by rw [Int.tmod_eq_emod_of_nonneg g1] at hkn; omega
  have hn := C_n hk
  have hrem : n.tmod 16 = (k : Int) := hkn.symm
  have hL := bulks_len ts
  have pl := plain_len ts
  have pb := plain_bulk ts
  refine Does.run Try.func8 rfl Try.ntmps8 rfl fun K hK => ?_
  refine Runs.rseq ?_
  refine RO.opv (v' := .d (.bool false)) (opv_assign rfl) rfl ?_
  refine RO.nil ?_
  refine Runs.rseq ?_
  refine RO.opv (v' := .d (.bool true)) (opv_callF (shown_fn) rfl rfl rfl trivial) rfl ?_
  refine RO.opv (v' := .d (.bool true)) (opv_assign rfl) rfl ?_
  refine RO.nil ?_
  refine Runs.has [(0, .d (.int _ _)), (1, .d (.list (encs _))), (4, .d (.bool false)), (5, .d (.bool true))] ⟨rfl, rfl, rfl, rfl, trivial⟩ ?_
  refine Runs.rseq ?_
  refine RO.opv (v' := .d (.int _ _)) (opv_move rfl) rfl ?_
  refine RO.opv (v' := .d (.int _ _)) (opv_arith (r := (k : Int)) rfl rfl (by simp only [binD, if_true]; rw [if_neg (by decide), hrem])) rfl ?_
  refine RO.opv (v' := .d (.int _ _)) (opv_conv (r := (k : Int)) rfl (wrap64 (by omega) (by omega))) rfl ?_
  refine RO.opv (v' := .d (.int _ _)) (opv_arith (r := ((k + 1 : Nat) : Int)) rfl rfl (by simp only [binD, if_true]; rw [wrap64 (by omega) (by omega)]; congr 2; omega)) rfl ?_
  refine RO.opv (v' := .d (.int _ _)) (opv_assign rfl) rfl ?_
  refine RO.nil ?_
  refine Runs.has [(1, .d (.list (encs _))), (4, .d (.bool false)), (5, .d (.bool true)), (6, .d (.int _ _))] ⟨rfl, rfl, rfl, rfl, trivial⟩ ?_
  refine Runs.rseq ?_
  refine RO.opv (v' := .d (.int _ _)) (opv_move rfl) rfl ?_
  refine RO.opv (v' := .d (.int _ _)) (opv_move rfl) rfl ?_
  refine RO.opv (v' := .d (.list (encPs _))) (opv_callF (chainp_fn k hk) rfl rfl rfl trivial) rfl ?_
  refine RO.opv (opv_callF (lnewC_fn k hk) rfl rfl rfl ⟨trivial, trivial, trivial⟩) rfl ?_
  refine RO.opv (opv_move rfl) rfl ?_
  refine RO.opv (v' := .d (encL _)) (opv_extract rfl rfl) rfl ?_
  refine RO.opv (v' := .d (.int _ _)) (opv_extract rfl rfl) rfl ?_
  refine RO.opv (v' := .d (encL _)) (opv_assign rfl) rfl ?_
  refine RO.opv (v' := .d (.int _ _)) (opv_assign rfl) rfl ?_
  refine RO.nil ?_
  refine Runs.has [(1, .d (.list (encs _))), (4, .d (.bool false)), (5, .d (.bool true)), (6, .d (.int _ _)), (7, .d (encL _))] ⟨rfl, rfl, rfl, rfl, rfl, trivial⟩ ?_
  refine Runs.seq ?_
  refine Runs.rseq ?_
  refine RO.opv (v' := .d (encL _)) (opv_move rfl) rfl ?_
  refine RO.opv (v' := .d (.bool false)) (opv_eqnil rfl rfl rfl) rfl ?_
  refine RO.opv (v' := .d (.bool false)) (opv_move rfl) rfl ?_
  refine RO.opgv (v' := .d (.list (encs _))) rfl (opv_move rfl) rfl ?_
  refine RO.opgv (v' := .d (.bool _)) rfl (opv_callF (few_fn ts (by omega)) rfl rfl rfl trivial) rfl ?_
  refine RO.opgv (v' := .d (.bool _)) rfl (opv_not rfl rfl) rfl ?_
  refine RO.opc (opv_pick rfl rfl) (fun h1 => ?_) (fun h1 => ?_)
  · try simp only [decide_eq_true_eq, decide_eq_false_iff_not, beq_iff_eq, beq_eq_false_iff_ne, bne_iff_ne, bne_eq_false_iff_eq, Int.not_lt, Int.not_le, ne_eq, Bool.not_eq_true', Bool.not_eq_false', gt_iff_lt, ge_iff_le] at h1
    refine RO.nil ?_
    refine Runs.condT rfl ?_
    refine Runs.has [(1, .d (.list (encs _))), (4, .d (.bool false)), (5, .d (.bool true)), (6, .d (.int _ _)), (7, .d (encL _))] ⟨rfl, rfl, rfl, rfl, rfl, trivial⟩ ?_
    refine Runs.rseq ?_
    refine RO.opv (v' := .d (.bool true)) (opv_move rfl) rfl ?_
    refine RO.opv (v' := .d (.bool true)) (opv_move rfl) rfl ?_
    refine RO.opgv (v' := .d (encL _)) rfl (opv_move rfl) rfl ?_
    refine RO.opgv (v' := .d (.bool true)) rfl (opv_nenil rfl rfl rfl) rfl ?_
    refine RO.opv (v' := .d (.bool true)) (opv_pick rfl rfl) rfl ?_
    refine RO.opv (v' := .d (.bool true)) (opv_assign rfl) rfl ?_
    refine RO.nil ?_
    refine Runs.ret ?_
    refine thenQ_ret ?_
    refine EndQ.tmp (.inr rfl) rfl rfl 0 (by exact Nat.le_refl _) (by exact Nat.zero_le _) trivial ⟨?_, rfl⟩
    rfl
  · try simp only [decide_eq_true_eq, decide_eq_false_iff_not, beq_iff_eq, beq_eq_false_iff_ne, bne_iff_ne, bne_eq_false_iff_eq, Int.not_lt, Int.not_le, ne_eq, Bool.not_eq_true', Bool.not_eq_false', gt_iff_lt, ge_iff_le] at h1
    refine RO.nil ?_
    refine Runs.condF rfl ?_
    refine Runs.skip ?_
    refine thenQ_normal ?_
    refine Runs.has [(1, .d (.list (encs _))), (4, .d (.bool false)), (5, .d (.bool true)), (6, .d (.int _ _)), (7, .d (encL _))] ⟨rfl, rfl, rfl, rfl, rfl, trivial⟩ ?_
    refine Runs.rseq ?_
    refine RO.opv (v' := .d (.list (encs _))) (opv_move rfl) rfl ?_
    refine RO.opv (v' := .d (.list (encs _))) (opv_callF (plain_fn ts (by omega)) rfl rfl rfl trivial) rfl ?_
    refine RO.opv (v' := .d (.list (encs _))) (opv_assign rfl) rfl ?_
    refine RO.nil ?_
    refine Runs.has [(1, .d (.list (encs _))), (4, .d (.bool false)), (5, .d (.bool true)), (6, .d (.int _ _)), (7, .d (encL _)), (9, .d (.list (encs _)))] ⟨rfl, rfl, rfl, rfl, rfl, rfl, trivial⟩ ?_
    refine Runs.seq ?_
    refine Runs.rseq ?_
    refine RO.opv (v' := .d (.list (encs _))) (opv_move rfl) rfl ?_
    refine RO.opv (v' := .d (.int _ _)) (opv_len_terms rfl) rfl ?_
    refine RO.opv (v' := .d (.list (encs _))) (opv_move rfl) rfl ?_
    refine RO.opv (v' := .d (.int _ _)) (opv_len_terms rfl) rfl ?_
    refine RO.opc (opv_bin rfl rfl rfl) (fun h2 => ?_) (fun h2 => ?_)
    · try simp only [decide_eq_true_eq, decide_eq_false_iff_not, beq_iff_eq, beq_eq_false_iff_ne, bne_iff_ne, bne_eq_false_iff_eq, Int.not_lt, Int.not_le, ne_eq, Bool.not_eq_true', Bool.not_eq_false', gt_iff_lt, ge_iff_le] at h2
      skip
      omega
    · try simp only [decide_eq_true_eq, decide_eq_false_iff_not, beq_iff_eq, beq_eq_false_iff_ne, bne_iff_ne, bne_eq_false_iff_eq, Int.not_lt, Int.not_le, ne_eq, Bool.not_eq_true', Bool.not_eq_false', gt_iff_lt, ge_iff_le] at h2
      skip
      refine RO.nil ?_
      refine Runs.condF rfl ?_
      refine Runs.skip ?_
      refine thenQ_normal ?_
      refine Runs.has [(1, .d (.list (encs _))), (4, .d (.bool false)), (5, .d (.bool true)), (6, .d (.int _ _)), (7, .d (encL _)), (9, .d (.list (encs _)))] ⟨rfl, rfl, rfl, rfl, rfl, rfl, trivial⟩ ?_
      refine Runs.seq ?_
      refine Runs.rseq ?_
      refine RO.opv (v' := .d (.int _ _)) (opv_assign rfl) rfl ?_
      refine RO.nil ?_
      refine Runs.block ?_
      refine Runs.loopC (X := Nat) (fun i => i ≤ ts.length) (fun i => ts.length - i) [(1, .d (.list (encs _))), (5, .d (.bool true)), (6, .d (.int _ _)), (7, .d (encL _)), (9, .d (.list (encs _)))] (fun i => [(10, .d (.int .i64 (i : Nat)))]) [] (fun i => []) (0) ⟨rfl, rfl, rfl, rfl, rfl, trivial⟩ ⟨rfl, trivial⟩ rfl (by omega) fun i hi => ?_
      refine Runs.seq ?_
      refine Runs.rseq ?_
      refine RO.opv (v' := .d (.int _ _)) (opv_move rfl) rfl ?_
      refine RO.opv (v' := .d (.list (encs _))) (opv_move rfl) rfl ?_
      refine RO.opv (v' := .d (.int _ _)) (opv_len_terms rfl) rfl ?_
      refine RO.opc (opv_bin rfl rfl rfl) (fun h3 => ?_) (fun h3 => ?_)
      · try simp only [decide_eq_true_eq, decide_eq_false_iff_not, beq_iff_eq, beq_eq_false_iff_ne, bne_iff_ne, bne_eq_false_iff_eq, Int.not_lt, Int.not_le, ne_eq, Bool.not_eq_true', Bool.not_eq_false', gt_iff_lt, ge_iff_le] at h3
        have hi2 : i < ts.length := by omega
        have hi3 : i < (plain ts).length := by omega
        have hbi := bulks_mem (List.getElem_mem hi3)
        have hone : ((plain ts).take (i + 1)).drop i = [(plain ts)[i]] := by rw [List.take_succ_eq_append_getElem hi3, List.drop_append_of_le_length (by simp; omega)]; simp
        refine RO.nil ?_
        refine Runs.condT rfl ?_
        refine Runs.skip ?_
        refine thenQ_normal ?_
        refine Runs.has [(1, .d (.list (encs _))), (5, .d (.bool true)), (6, .d (.int _ _)), (7, .d (encL _)), (9, .d (.list (encs _))), (10, .d (.int _ _))] ⟨rfl, rfl, rfl, rfl, rfl, rfl, trivial⟩ ?_
        refine Runs.seq ?_
        refine Runs.block ?_
        refine Runs.seq ?_
        refine Runs.rseq ?_
        refine RO.opv (v' := .d (.list (encs _))) (opv_move rfl) rfl ?_
        refine RO.opv (v' := .d (.int _ _)) (opv_move rfl) rfl ?_
        refine RO.opv (v' := .d (.ptr _)) (opv_index_terms rfl rfl (by omega)) rfl ?_
        refine RO.opv (v' := .d (enc _)) (opv_load_pterm rfl) rfl ?_
        refine RO.opv (v' := .d (.int _ _)) (opv_move rfl) rfl ?_
        refine RO.opv (v' := .d (.int _ _)) (opv_callF (check_fn ts[i] ((k + 1 : Nat) : Int) (by have := bulks_mem (List.getElem_mem hi2); omega)) rfl rfl rfl trivial) rfl ?_
        refine RO.opc (opv_bin rfl rfl rfl) (fun h4 => ?_) (fun h4 => ?_)
        · try simp only [decide_eq_true_eq, decide_eq_false_iff_not, beq_iff_eq, beq_eq_false_iff_ne, bne_iff_ne, bne_eq_false_iff_eq, Int.not_lt, Int.not_le, ne_eq, Bool.not_eq_true', Bool.not_eq_false', gt_iff_lt, ge_iff_le] at h4
          skip
          refine RO.nil ?_
          refine Runs.condT rfl ?_
          refine Runs.has [(1, .d (.list (encs _))), (5, .d (.bool true)), (6, .d (.int _ _)), (7, .d (encL _)), (9, .d (.list (encs _))), (10, .d (.int _ _))] ⟨rfl, rfl, rfl, rfl, rfl, rfl, trivial⟩ ?_
          refine Runs.rseq ?_
          refine RO.opv (v' := .d (.bool true)) (opv_move rfl) rfl ?_
          refine RO.opv (v' := .d (.bool true)) (opv_assign rfl) rfl ?_
          refine RO.nil ?_
          refine Runs.ret ?_
          refine thenQ_ret ?_
          refine blockQ_ret ?_
          refine thenQ_ret ?_
          refine thenQ_ret ?_
          refine blockQ_ret ?_
          refine thenQ_ret ?_
          refine EndQ.tmp (.inr rfl) rfl rfl 0 (by exact Nat.le_refl _) (by exact Nat.zero_le _) trivial ⟨?_, rfl⟩
          rfl
        · try simp only [decide_eq_true_eq, decide_eq_false_iff_not, beq_iff_eq, beq_eq_false_iff_ne, bne_iff_ne, bne_eq_false_iff_eq, Int.not_lt, Int.not_le, ne_eq, Bool.not_eq_true', Bool.not_eq_false', gt_iff_lt, ge_iff_le] at h4
          obtain ⟨u, hu1, hu2⟩ := fine_plain1 (fine_check h4)
          have hpi : (plain ts)[i] = u.erase := by simp only [plain, List.getElem_map]; exact hu2
          refine RO.nil ?_
          refine Runs.condF rfl ?_
          refine Runs.skip ?_
          refine thenQ_normal ?_
          refine Runs.has [(1, .d (.list (encs _))), (5, .d (.bool true)), (6, .d (.int _ _)), (7, .d (encL _)), (9, .d (.list (encs _))), (10, .d (.int _ _))] ⟨rfl, rfl, rfl, rfl, rfl, rfl, trivial⟩ ?_
          refine Runs.seq ?_
          refine Runs.rseq ?_
          refine RO.opv (v' := .d (encL _)) (opv_move rfl) rfl ?_
          refine RO.opv (v' := .d (.list (encs _))) (opv_move rfl) rfl ?_
          refine RO.opv (v' := .d (.int _ _)) (opv_move rfl) rfl ?_
          refine RO.opv (v' := .d (.ptr _)) (opv_index_terms rfl rfl hi3) rfl ?_
          refine RO.opv (v' := .d (enc _)) (opv_load_pterm rfl) rfl ?_
          refine RO.opv (v' := .d (.int _ _)) (opv_callF (sjoin_fn (C k) (C_ok hk) (plain ts)[i] (by omega)) rfl rfl rfl trivial) rfl ?_
          refine RO.opv (v' := .d (encL _)) (opv_move rfl) rfl ?_
          refine RO.opv (v' := .d (.int _ _)) (opv_callF (lbot_fn (C k) (C_ok hk)) rfl rfl rfl trivial) rfl ?_
          refine RO.opc (opv_bin rfl rfl rfl) (fun h5 => ?_) (fun h5 => ?_)
          · try simp only [decide_eq_true_eq, decide_eq_false_iff_not, beq_iff_eq, beq_eq_false_iff_ne, bne_iff_ne, bne_eq_false_iff_eq, Int.not_lt, Int.not_le, ne_eq, Bool.not_eq_true', Bool.not_eq_false', gt_iff_lt, ge_iff_le] at h5
            rw [hpi, C_bot hk, sj_fine_zero hk u hu1] at h5; exact absurd rfl h5
          · try simp only [decide_eq_true_eq, decide_eq_false_iff_not, beq_iff_eq, beq_eq_false_iff_ne, bne_iff_ne, bne_eq_false_iff_eq, Int.not_lt, Int.not_le, ne_eq, Bool.not_eq_true', Bool.not_eq_false', gt_iff_lt, ge_iff_le] at h5
            refine RO.nil ?_
            refine Runs.condF rfl ?_
            refine Runs.skip ?_
            refine thenQ_normal ?_
            refine Runs.has [(1, .d (.list (encs _))), (5, .d (.bool true)), (6, .d (.int _ _)), (7, .d (encL _)), (9, .d (.list (encs _))), (10, .d (.int _ _))] ⟨rfl, rfl, rfl, rfl, rfl, rfl, trivial⟩ ?_
            refine Runs.rseq ?_
            refine RO.opv (v' := .d (.list (encs _))) (opv_move rfl) rfl ?_
            refine RO.opv (v' := .d (.int _ _)) (opv_move rfl) rfl ?_
            refine RO.opv (v' := .d (.int _ _)) (opv_move rfl) rfl ?_
            refine RO.opv (v' := .d (.int _ _)) (opv_arith (r := ((i + 1 : Nat) : Int)) rfl rfl (by simp only [binD, if_true]; rw [wrap64 (by omega) (by omega)]; congr 2)) rfl ?_
            refine RO.opv (v' := .d (.list (encs _))) (opv_slice_terms (l := i) (h := (i + 1)) rfl ⟨_, rfl⟩ ⟨_, rfl⟩ (by omega) (by omega)) rfl ?_
            refine RO.opv (v' := .d (.list (encs _))) (opv_callF (plain_fn (((plain ts).take (i + 1)).drop i) (by rw [hone]; show (plain ts)[i].bulk + 0 ≤ _; omega)) rfl rfl rfl trivial) rfl ?_
            refine RO.opv (v' := .d (.list (encs _))) (opv_assign rfl) rfl ?_
            refine RO.nil ?_
            refine Runs.has [(1, .d (.list (encs _))), (5, .d (.bool true)), (6, .d (.int _ _)), (7, .d (encL _)), (9, .d (.list (encs _))), (10, .d (.int _ _)), (11, .d (.list (encs _)))] ⟨rfl, rfl, rfl, rfl, rfl, rfl, rfl, trivial⟩ ?_
            refine Runs.seq ?_
            refine Runs.drawn (by kernel_rfl) [] [false, false, false, false, false, false, false, false, false, false, false, false, false, false, false, false, false, false, false, false, false, false] [false, false, false, false, false, false, false, false, false, false, false, false, false, false, false, false, false, false, false, false, false, false] (by decide +kernel) ?_
            refine RD.opv (v' := .d (.list (encs _))) (opv_move rfl) rfl ?_
            refine RD.opv (v' := .d (.int _ _)) (opv_len_terms rfl) rfl ?_
            refine RD.opv (v' := .d (.bool _)) (opv_bin rfl rfl rfl) rfl ?_
            refine RD.opc (opv_move rfl) (fun h6 => ?_) (fun h6 => ?_)
            · try simp only [decide_eq_true_eq, decide_eq_false_iff_not, beq_iff_eq, beq_eq_false_iff_ne, bne_iff_ne, bne_eq_false_iff_eq, Int.not_lt, Int.not_le, ne_eq, Bool.not_eq_true', Bool.not_eq_false', gt_iff_lt, ge_iff_le] at h6
              rw [hone] at h6; exact absurd rfl h6
            · try simp only [decide_eq_true_eq, decide_eq_false_iff_not, beq_iff_eq, beq_eq_false_iff_ne, bne_iff_ne, bne_eq_false_iff_eq, Int.not_lt, Int.not_le, ne_eq, Bool.not_eq_true', Bool.not_eq_false', gt_iff_lt, ge_iff_le] at h6
              refine RD.opgv (v' := .d (.list (encs _))) rfl (opv_move rfl) rfl ?_
              refine RD.opgv (v' := .d (.int _ _)) rfl (opv_move rfl) rfl ?_
              refine RD.opgv (v' := .d (.ptr _)) rfl (opv_index_terms rfl rfl hi3) rfl ?_
              refine RD.opgv (v' := .d (enc _)) rfl (opv_load_pterm rfl) rfl ?_
              refine RD.opgv (v' := .d (.bool _)) rfl (opv_callF (rlab_fn (plain ts)[i]) rfl rfl rfl trivial) rfl ?_
              refine RD.opgv (v' := .d (.bool _)) rfl (opv_not rfl rfl) rfl ?_
              refine RD.opgc rfl (opv_move rfl) (fun h7 => ?_) (fun h7 => ?_)
              · try simp only [decide_eq_true_eq, decide_eq_false_iff_not, beq_iff_eq, beq_eq_false_iff_ne, bne_iff_ne, bne_eq_false_iff_eq, Int.not_lt, Int.not_le, ne_eq, Bool.not_eq_true', Bool.not_eq_false', gt_iff_lt, ge_iff_le] at h7
                have hlb := h7
                refine RD.opgv (v' := .d (.list (encs _))) rfl (opv_move rfl) rfl ?_
                refine RD.opgv (v' := .d (.ptr _)) rfl (opv_index_terms (i := 0) rfl rfl (by rw [hone]; exact Nat.zero_lt_one)) rfl ?_
                refine RD.opgv (v' := .d (enc _)) rfl (opv_load_pterm rfl) rfl ?_
                refine RD.opgv (v' := .d (.list (encs _))) rfl (opv_move rfl) rfl ?_
                refine RD.opgv (v' := .d (.int _ _)) rfl (opv_move rfl) rfl ?_
                refine RD.opgv (v' := .d (.ptr _)) rfl (opv_index_terms rfl rfl hi3) rfl ?_
                refine RD.opgv (v' := .d (enc _)) rfl (opv_load_pterm rfl) rfl ?_
                refine RD.opgv (v' := .d (.bool _)) rfl (opv_callF (same_fn ((plain (((plain ts).take (i + 1)).drop i))[0]'(by rw [hone]; exact Nat.zero_lt_one)) (plain ts)[i] (by simp only [hone]; show (plain1 (plain ts)[i]).bulk ≤ _; have := plain1_bulk (plain ts)[i]; omega) (by omega)) rfl rfl rfl trivial) rfl ?_
                refine RD.opgv (v' := .d (.bool _)) rfl (opv_not rfl rfl) rfl ?_
                refine RD.opgv (v' := .d (.bool _)) rfl (opv_pick rfl rfl) rfl ?_
                refine RD.opc (opv_pick rfl rfl) (fun h8 => ?_) (fun h8 => ?_)
                · try simp only [decide_eq_true_eq, decide_eq_false_iff_not, beq_iff_eq, beq_eq_false_iff_ne, bne_iff_ne, bne_eq_false_iff_eq, Int.not_lt, Int.not_le, ne_eq, Bool.not_eq_true', Bool.not_eq_false', gt_iff_lt, ge_iff_le] at h8
                  have e1 : plain1 (plain ts)[i] = (plain ts)[i] := by rw [plain1_no hlb, hpi, erase_erase]
                  have e2 := Bool.eq_false_iff.1 h8
                  simp only [hone] at e2
                  exact absurd ((same_iff _ _).2 e1) e2
                · try simp only [decide_eq_true_eq, decide_eq_false_iff_not, beq_iff_eq, beq_eq_false_iff_ne, bne_iff_ne, bne_eq_false_iff_eq, Int.not_lt, Int.not_le, ne_eq, Bool.not_eq_true', Bool.not_eq_false', gt_iff_lt, ge_iff_le] at h8
                  refine RD.nil ?_
                  refine thenQ_normal ?_
                  refine Runs.condF rfl ?_
                  refine Runs.skip ?_
                  refine blockQ_normal ?_
                  refine thenQ_normal ?_
                  refine Runs.has [(1, .d (.list (encs _))), (5, .d (.bool true)), (6, .d (.int _ _)), (7, .d (encL _)), (9, .d (.list (encs _))), (10, .d (.int _ _))] ⟨rfl, rfl, rfl, rfl, rfl, rfl, trivial⟩ ?_
                  refine Runs.region ?_
                  refine RO.opv (v' := .d (.int _ _)) (opv_move rfl) rfl ?_
                  refine RO.opv (v' := .d (.int _ _)) (opv_bin rfl rfl rfl) rfl ?_
                  refine RO.opv (v' := .d (.int _ _)) (opv_assign rfl) rfl ?_
                  refine RO.nil ?_
                  refine thenQ_normal ?_
                  refine ⟨i + 1, 0, (by rw [hK]; exact Nat.le_of_ble_eq_true rfl), ⟨rfl, rfl, rfl, rfl, rfl, trivial⟩, ⟨?_, trivial⟩, rfl, ?_, ?_⟩
                  · refine int_eq ?_; rw [wrap64 (by omega) (by omega)]; omega
                  · omega
                  · omega
              · try simp only [decide_eq_true_eq, decide_eq_false_iff_not, beq_iff_eq, beq_eq_false_iff_ne, bne_iff_ne, bne_eq_false_iff_eq, Int.not_lt, Int.not_le, ne_eq, Bool.not_eq_true', Bool.not_eq_false', gt_iff_lt, ge_iff_le] at h7
                skip
                refine RD.off rfl ?_
                refine RD.off rfl ?_
                refine RD.off rfl ?_
                refine RD.off rfl ?_
                refine RD.off rfl ?_
                refine RD.off rfl ?_
                refine RD.off rfl ?_
                refine RD.off rfl ?_
                refine RD.off rfl ?_
                refine RD.opgv (v' := .d (.bool false)) rfl (opv_pick rfl rfl) rfl ?_
                refine RD.opv (v' := .d (.bool false)) (opv_pick rfl rfl) rfl ?_
                refine RD.nil ?_
                refine thenQ_normal ?_
                refine Runs.condF rfl ?_
                refine Runs.skip ?_
                refine blockQ_normal ?_
                refine thenQ_normal ?_
                refine Runs.has [(1, .d (.list (encs _))), (5, .d (.bool true)), (6, .d (.int _ _)), (7, .d (encL _)), (9, .d (.list (encs _))), (10, .d (.int _ _))] ⟨rfl, rfl, rfl, rfl, rfl, rfl, trivial⟩ ?_
                refine Runs.region ?_
                refine RO.opv (v' := .d (.int _ _)) (opv_move rfl) rfl ?_
                refine RO.opv (v' := .d (.int _ _)) (opv_bin rfl rfl rfl) rfl ?_
                refine RO.opv (v' := .d (.int _ _)) (opv_assign rfl) rfl ?_
                refine RO.nil ?_
                refine thenQ_normal ?_
                refine ⟨i + 1, 0, (by rw [hK]; exact Nat.le_of_ble_eq_true rfl), ⟨rfl, rfl, rfl, rfl, rfl, trivial⟩, ⟨?_, trivial⟩, rfl, ?_, ?_⟩
                · refine int_eq ?_; rw [wrap64 (by omega) (by omega)]; omega
                · omega
                · omega
      · try simp only [decide_eq_true_eq, decide_eq_false_iff_not, beq_iff_eq, beq_eq_false_iff_ne, bne_iff_ne, bne_eq_false_iff_eq, Int.not_lt, Int.not_le, ne_eq, Bool.not_eq_true', Bool.not_eq_false', gt_iff_lt, ge_iff_le] at h3
        have hi2 : i = ts.length := by omega
        refine RO.nil ?_
        refine Runs.condF rfl ?_
        refine Runs.exit ?_
        refine thenQ_exit ?_
        refine thenQ_exit ?_
        refine blockQ_here ?_
        refine thenQ_normal ?_
        refine Runs.has [(5, .d (.bool true))] ⟨rfl, trivial⟩ ?_
        refine Runs.rseq ?_
        refine RO.opv (v' := .d (.bool true)) (opv_move rfl) rfl ?_
        refine RO.opv (v' := .d (.bool true)) (opv_assign rfl) rfl ?_
        refine RO.nil ?_
        refine Runs.ret ?_
        refine EndQ.tmp (.inr rfl) rfl rfl 0 (by exact Nat.le_refl _) (by exact Nat.zero_le _) trivial ⟨?_, rfl⟩
        rfl
end Go.Proofs.Ytljmkgjemmoegaa.AM
