import Derived.Test.YtohncglpjiplaaaL0
namespace Go.Proofs.Ytohncglpjiplaaa.AM
open Go
set_option linter.unusedVariables false
set_option linter.unusedSimpArgs false
theorem checkWrites_fn (n : Int) (ts : List Term) (lv : Int) (g1 : 0 ≤ n) (g1' : n ≤ 255) (g2 : bulks ts ≤ 2 ^ 20) (_g2' : fitss ts) (g4 : 0 ≤ lv) (g4' : lv ≤ 255) : Fn Try.prog 7 [.d (.int .u8 n), .d (.list (encs ts)), .d (.int .u8 lv)] [] (.d (.bool true)) [] := by
  obtain ⟨j, hjn⟩ : ∃ j : Nat, (j : Int) = n.tmod 7 := ⟨(n.tmod 7).toNat, by rw [Int.tmod_eq_emod_of_nonneg g1]; omega⟩
  have hj : j < 7 := by rw [Int.tmod_eq_emod_of_nonneg g1] at hjn; omega
  have hrem : n.tmod 7 = (j : Int) := hjn.symm
  obtain ⟨k, hkj⟩ : ∃ k, k = j + 1 := ⟨_, rfl⟩
  have hk : k < 16 := by omega
  have h1k : 1 ≤ k := by omega
  have hn := C_n hk
  have hL := bulks_len ts
  refine Does.run Try.func7 rfl Try.ntmps7 rfl fun K hK => ?_
  refine Runs.rseq ?_
  refine RO.opv (v' := .d (.bool false)) (opv_assign rfl) rfl ?_
  refine RO.nil ?_
  refine Runs.rseq ?_
  refine RO.opv (v' := .d (.bool true)) (opv_callF (shown_fn) rfl rfl rfl trivial) rfl ?_
  refine RO.opv (v' := .d (.bool true)) (opv_assign rfl) rfl ?_
  refine RO.nil ?_
  refine Runs.has [(0, .d (.int _ _)), (1, .d (.list (encs _))), (2, .d (.int _ _)), (6, .d (.bool false)), (7, .d (.bool true))] ⟨rfl, rfl, rfl, rfl, rfl, trivial⟩ ?_
  refine Runs.rseq ?_
  refine RO.opv (v' := .d (.int _ _)) (opv_move rfl) rfl ?_
  refine RO.opv (v' := .d (.int _ _)) (opv_arith (r := (j : Int)) rfl rfl (by simp only [binD, if_true]; rw [if_neg (by decide), hrem])) rfl ?_
  refine RO.opv (v' := .d (.int _ _)) (opv_conv (r := (j : Int)) rfl (wrap64 (by omega) (by omega))) rfl ?_
  refine RO.opv (v' := .d (.int _ _)) (opv_arith (r := ((k + 1 : Nat) : Int)) rfl rfl (by simp only [binD, if_true]; rw [wrap64 (by omega) (by omega)]; congr 2; omega)) rfl ?_
  refine RO.opv (v' := .d (.int _ _)) (opv_assign rfl) rfl ?_
  refine RO.nil ?_
  refine Runs.has [(1, .d (.list (encs _))), (2, .d (.int _ _)), (6, .d (.bool false)), (7, .d (.bool true)), (8, .d (.int _ _))] ⟨rfl, rfl, rfl, rfl, rfl, trivial⟩ ?_
  refine Runs.rseq ?_
  refine RO.opv (v' := .d (.int _ _)) (opv_move rfl) rfl ?_
  refine RO.opv (v' := .d (.int _ _)) (opv_move rfl) rfl ?_
  refine RO.opv (v' := .d (.list (encPs _))) (opv_callF (chainp_fn k hk) rfl rfl rfl trivial) rfl ?_
  refine RO.opv (opv_callF (lnewC_fn k hk) rfl rfl rfl ⟨trivial, trivial, trivial⟩) rfl ?_
  refine RO.opv (opv_move rfl) rfl ?_
  refine RO.opv (v' := .d (encL _)) (opv_extract rfl rfl) rfl ?_
  refine RO.opv (v' := .d (.int _ _)) (opv_extract rfl rfl) rfl ?_
  refine RO.opv (v' := .d (encL _)) (opv_assign rfl) rfl ?_
  refine RO.opv (v' := .d (.int _ _)) (opv_assign rfl) rfl ?_
  refine RO.nil ?_
  refine Runs.has [(1, .d (.list (encs _))), (2, .d (.int _ _)), (6, .d (.bool false)), (7, .d (.bool true)), (8, .d (.int _ _)), (9, .d (encL _))] ⟨rfl, rfl, rfl, rfl, rfl, rfl, trivial⟩ ?_
  refine Runs.seq ?_
  refine Runs.rseq ?_
  refine RO.opv (v' := .d (encL _)) (opv_move rfl) rfl ?_
  refine RO.opv (v' := .d (.bool false)) (opv_eqnil rfl rfl rfl) rfl ?_
  refine RO.opv (v' := .d (.bool false)) (opv_move rfl) rfl ?_
  refine RO.opgv (v' := .d (.list (encs _))) rfl (opv_move rfl) rfl ?_
  refine RO.opgv (v' := .d (.bool _)) rfl (opv_callF (few_fn ts (by omega)) rfl rfl rfl trivial) rfl ?_
  refine RO.opgv (v' := .d (.bool _)) rfl (opv_not rfl rfl) rfl ?_
  refine RO.opc (opv_pick rfl rfl) (fun h1 => ?_) (fun h1 => ?_)
  · try simp only [decide_eq_true_eq, decide_eq_false_iff_not, beq_iff_eq, beq_eq_false_iff_ne, bne_iff_ne, bne_eq_false_iff_eq, Int.not_lt, Int.not_le, ne_eq, Bool.not_eq_true', Bool.not_eq_false', gt_iff_lt, ge_iff_le] at h1
    refine RO.nil ?_
    refine Runs.condT rfl ?_
    refine Runs.has [(1, .d (.list (encs _))), (2, .d (.int _ _)), (6, .d (.bool false)), (7, .d (.bool true)), (8, .d (.int _ _)), (9, .d (encL _))] ⟨rfl, rfl, rfl, rfl, rfl, rfl, trivial⟩ ?_
    refine Runs.rseq ?_
    refine RO.opv (v' := .d (.bool true)) (opv_move rfl) rfl ?_
    refine RO.opv (v' := .d (.bool true)) (opv_move rfl) rfl ?_
    refine RO.opgv (v' := .d (encL _)) rfl (opv_move rfl) rfl ?_
    refine RO.opgv (v' := .d (.bool true)) rfl (opv_nenil rfl rfl rfl) rfl ?_
    refine RO.opv (v' := .d (.bool true)) (opv_pick rfl rfl) rfl ?_
    refine RO.opv (v' := .d (.bool true)) (opv_assign rfl) rfl ?_
    refine RO.nil ?_
    refine Runs.ret ?_
    refine thenQ_ret ?_
    refine EndQ.tmp (.inr rfl) rfl rfl 0 (by exact Nat.le_refl _) (by exact Nat.zero_le _) trivial ⟨?_, rfl⟩
    first
      | rfl
      | (refine bool_eq ?_; simp [he]; done)
      | (refine bool_eq ?_
         have hall := hi.2
         rw [hi2, List.take_length] at hall
         rw [hT.1]
         exact accept_clean hk h1k hT.2 hall [] lv (fun g hg => by cases hg))
  · try simp only [decide_eq_true_eq, decide_eq_false_iff_not, beq_iff_eq, beq_eq_false_iff_ne, bne_iff_ne, bne_eq_false_iff_eq, Int.not_lt, Int.not_le, ne_eq, Bool.not_eq_true', Bool.not_eq_false', gt_iff_lt, ge_iff_le] at h1
    refine RO.nil ?_
    refine Runs.condF rfl ?_
    refine Runs.skip ?_
    refine thenQ_normal ?_
    refine Runs.has [(1, .d (.list (encs _))), (2, .d (.int _ _)), (6, .d (.bool false)), (7, .d (.bool true)), (8, .d (.int _ _)), (9, .d (encL _))] ⟨rfl, rfl, rfl, rfl, rfl, rfl, trivial⟩ ?_
    refine Runs.rseq ?_
    refine RO.opv (v' := .d (encL _)) (opv_move rfl) rfl ?_
    refine RO.opv (v' := .d (.list (encs _))) (opv_move rfl) rfl ?_
    refine RO.opv (opv_callF (dnew_fn (C k) (C_ok hk) ts (by omega)) rfl rfl rfl ⟨trivial, trivial, trivial, trivial⟩) rfl ?_
    refine RO.opv (opv_move rfl) rfl ?_
    refine RO.opv (v' := .d (encOB _ _)) (opv_extract rfl rfl) rfl ?_
    refine RO.opv (v' := .d (.int _ _)) (opv_extract rfl rfl) rfl ?_
    refine RO.opv (v' := .d (.int _ _)) (opv_extract rfl rfl) rfl ?_
    refine RO.opv (v' := .d (encOB _ _)) (opv_assign rfl) rfl ?_
    refine RO.opv (v' := .d (.int _ _)) (opv_assign rfl) rfl ?_
    refine RO.opv (v' := .d (.int _ _)) (opv_assign rfl) rfl ?_
    refine RO.nil ?_
    refine Runs.has [(1, .d (.list (encs _))), (2, .d (.int _ _)), (6, .d (.bool false)), (7, .d (.bool true)), (8, .d (.int _ _)), (9, .d (encL _)), (11, .d (encOB _ _)), (13, .d (.int _ _))] ⟨rfl, rfl, rfl, rfl, rfl, rfl, rfl, rfl, trivial⟩ ?_
    refine Runs.seq ?_
    refine Runs.rseq ?_
    refine RO.opv (v' := .d (.int _ _)) (opv_move rfl) rfl ?_
    refine RO.opv (v' := .d (.bool _)) (opv_bin rfl rfl rfl) rfl ?_
    refine RO.opc (opv_move rfl) (fun h2 => ?_) (fun h2 => ?_)
    · try simp only [decide_eq_true_eq, decide_eq_false_iff_not, beq_iff_eq, beq_eq_false_iff_ne, bne_iff_ne, bne_eq_false_iff_eq, Int.not_lt, Int.not_le, ne_eq, Bool.not_eq_true', Bool.not_eq_false', gt_iff_lt, ge_iff_le] at h2
      have he := h2
      refine RO.off rfl ?_
      refine RO.off rfl ?_
      refine RO.opv (v' := .d (.bool true)) (opv_pick rfl rfl) rfl ?_
      refine RO.nil ?_
      refine Runs.condT rfl ?_
      refine Runs.has [(1, .d (.list (encs _))), (2, .d (.int _ _)), (6, .d (.bool false)), (7, .d (.bool true)), (8, .d (.int _ _)), (9, .d (encL _)), (11, .d (encOB _ _)), (13, .d (.int _ _))] ⟨rfl, rfl, rfl, rfl, rfl, rfl, rfl, rfl, trivial⟩ ?_
      refine Runs.rseq ?_
      refine RO.opv (v' := .d (.bool true)) (opv_move rfl) rfl ?_
      refine RO.opv (v' := .d (.bool true)) (opv_move rfl) rfl ?_
      refine RO.opgv (v' := .d (.int _ _)) rfl (opv_move rfl) rfl ?_
      refine RO.opgv (v' := .d (.bool _)) rfl (opv_bin rfl rfl rfl) rfl ?_
      refine RO.opv (v' := .d (.bool _)) (opv_pick rfl rfl) rfl ?_
      refine RO.opv (v' := .d (.bool _)) (opv_assign rfl) rfl ?_
      refine RO.nil ?_
      refine Runs.ret ?_
      refine thenQ_ret ?_
      refine EndQ.tmp (.inr rfl) rfl rfl 0 (by exact Nat.le_refl _) (by exact Nat.zero_le _) trivial ⟨?_, rfl⟩
      first
        | rfl
        | (refine bool_eq ?_; simp [he]; done)
        | (refine bool_eq ?_
           have hall := hi.2
           rw [hi2, List.take_length] at hall
           rw [hT.1]
           exact accept_clean hk h1k hT.2 hall [] lv (fun g hg => by cases hg))
    · try simp only [decide_eq_true_eq, decide_eq_false_iff_not, beq_iff_eq, beq_eq_false_iff_ne, bne_iff_ne, bne_eq_false_iff_eq, Int.not_lt, Int.not_le, ne_eq, Bool.not_eq_true', Bool.not_eq_false', gt_iff_lt, ge_iff_le] at h2
      have he : (newB (C k) ts).2.2 = 0 := h2
      refine RO.opgv (v' := .d (encOB _ _)) rfl (opv_move rfl) rfl ?_
      refine RO.opgv (v' := .d (.bool _)) rfl (opv_eqnil_ob rfl rfl) rfl ?_
      refine RO.opc (opv_pick rfl rfl) (fun h3 => ?_) (fun h3 => ?_)
      · try simp only [decide_eq_true_eq, decide_eq_false_iff_not, beq_iff_eq, beq_eq_false_iff_ne, bne_iff_ne, bne_eq_false_iff_eq, Int.not_lt, Int.not_le, ne_eq, Bool.not_eq_true', Bool.not_eq_false', gt_iff_lt, ge_iff_le] at h3
        skip
        have hT : (newB (C k) ts).1 = some (parsesT (C k) ts) ∧ ∀ t ∈ ts, (parseL (C k) t).2 = 0 := by
          rcases newB_cases (C k) ts with ⟨_, m0, m1, _⟩ | ⟨_, _, hx⟩
          · exact ⟨m1, m0⟩
          · exact absurd he hx
        rw [hT.1] at h3; cases h3
      · try simp only [decide_eq_true_eq, decide_eq_false_iff_not, beq_iff_eq, beq_eq_false_iff_ne, bne_iff_ne, bne_eq_false_iff_eq, Int.not_lt, Int.not_le, ne_eq, Bool.not_eq_true', Bool.not_eq_false', gt_iff_lt, ge_iff_le] at h3
        have hT : (newB (C k) ts).1 = some (parsesT (C k) ts) ∧ ∀ t ∈ ts, (parseL (C k) t).2 = 0 := by
          rcases newB_cases (C k) ts with ⟨_, m0, m1, _⟩ | ⟨_, _, hx⟩
          · exact ⟨m1, m0⟩
          · exact absurd he hx
        refine RO.nil ?_
        refine Runs.condF rfl ?_
        refine Runs.skip ?_
        refine thenQ_normal ?_
        refine Runs.has [(1, .d (.list (encs _))), (2, .d (.int _ _)), (6, .d (.bool false)), (7, .d (.bool true)), (8, .d (.int _ _)), (9, .d (encL _)), (11, .d (encOB _ _))] ⟨rfl, rfl, rfl, rfl, rfl, rfl, rfl, trivial⟩ ?_
        refine Runs.seq ?_
        refine Runs.rseq ?_
        refine RO.opv (v' := .d (.int _ _)) (opv_assign rfl) rfl ?_
        refine RO.nil ?_
        refine Runs.block ?_
        refine Runs.loopC (X := Nat) (fun i => i ≤ ts.length ∧ ∀ t ∈ ts.take i, cleanT t = true) (fun i => ts.length - i) [(1, .d (.list (encs _))), (2, .d (.int _ _)), (7, .d (.bool true)), (8, .d (.int _ _)), (9, .d (encL _)), (11, .d (encOB _ _))] (fun i => [(14, .d (.int .i64 (i : Nat)))]) [] (fun i => []) (0) ⟨rfl, rfl, rfl, rfl, rfl, rfl, trivial⟩ ⟨rfl, trivial⟩ rfl ⟨Nat.zero_le _, fun t h => by simp at h⟩ fun i hi => ?_
        refine Runs.seq ?_
        refine Runs.rseq ?_
        refine RO.opv (v' := .d (.int _ _)) (opv_move rfl) rfl ?_
        refine RO.opv (v' := .d (.list (encs _))) (opv_move rfl) rfl ?_
        refine RO.opv (v' := .d (.int _ _)) (opv_len_terms rfl) rfl ?_
        refine RO.opc (opv_bin rfl rfl rfl) (fun h4 => ?_) (fun h4 => ?_)
        · try simp only [decide_eq_true_eq, decide_eq_false_iff_not, beq_iff_eq, beq_eq_false_iff_ne, bne_iff_ne, bne_eq_false_iff_eq, Int.not_lt, Int.not_le, ne_eq, Bool.not_eq_true', Bool.not_eq_false', gt_iff_lt, ge_iff_le] at h4
          have hi2 : i < ts.length := by omega
          refine RO.nil ?_
          refine Runs.condT rfl ?_
          refine Runs.skip ?_
          refine thenQ_normal ?_
          refine Runs.has [(1, .d (.list (encs _))), (2, .d (.int _ _)), (7, .d (.bool true)), (8, .d (.int _ _)), (9, .d (encL _)), (11, .d (encOB _ _)), (14, .d (.int _ _))] ⟨rfl, rfl, rfl, rfl, rfl, rfl, rfl, trivial⟩ ?_
          refine Runs.seq ?_
          refine Runs.block ?_
          refine Runs.rseq ?_
          refine RO.opv (v' := .d (.list (encs _))) (opv_move rfl) rfl ?_
          refine RO.opv (v' := .d (.int _ _)) (opv_move rfl) rfl ?_
          refine RO.opv (v' := .d (.ptr _)) (opv_index_terms rfl rfl hi2) rfl ?_
          refine RO.opv (v' := .d (enc _)) (opv_load_pterm rfl) rfl ?_
          refine RO.opv (v' := .d (.bool _)) (opv_callF (rhas_fn ts[i] bWrite 2 (by have := bulks_mem (List.getElem_mem hi2); omega)) rfl rfl rfl trivial) rfl ?_
          refine RO.opc (opv_move rfl) (fun h5 => ?_) (fun h5 => ?_)
          · try simp only [decide_eq_true_eq, decide_eq_false_iff_not, beq_iff_eq, beq_eq_false_iff_ne, bne_iff_ne, bne_eq_false_iff_eq, Int.not_lt, Int.not_le, ne_eq, Bool.not_eq_true', Bool.not_eq_false', gt_iff_lt, ge_iff_le] at h5
            have c1 := h5
            refine RO.off rfl ?_
            refine RO.off rfl ?_
            refine RO.off rfl ?_
            refine RO.off rfl ?_
            refine RO.off rfl ?_
            refine RO.opv (v' := .d (.bool true)) (opv_pick rfl rfl) rfl ?_
            refine RO.opv (v' := .d (.bool true)) (opv_move rfl) rfl ?_
            refine RO.off rfl ?_
            refine RO.off rfl ?_
            refine RO.off rfl ?_
            refine RO.off rfl ?_
            refine RO.off rfl ?_
            refine RO.opv (v' := .d (.bool true)) (opv_pick rfl rfl) rfl ?_
            refine RO.opv (v' := .d (.bool true)) (opv_move rfl) rfl ?_
            refine RO.off rfl ?_
            refine RO.off rfl ?_
            refine RO.off rfl ?_
            refine RO.off rfl ?_
            refine RO.off rfl ?_
            refine RO.off rfl ?_
            refine RO.off rfl ?_
            refine RO.opv (v' := .d (.bool true)) (opv_pick rfl rfl) rfl ?_
            refine RO.opv (v' := .d (.bool true)) (opv_move rfl) rfl ?_
            refine RO.off rfl ?_
            refine RO.off rfl ?_
            refine RO.off rfl ?_
            refine RO.off rfl ?_
            refine RO.off rfl ?_
            refine RO.opv (v' := .d (.bool true)) (opv_pick rfl rfl) rfl ?_
            refine RO.nil ?_
            refine Runs.condT rfl ?_
            refine Runs.has [(1, .d (.list (encs _))), (2, .d (.int _ _)), (7, .d (.bool true)), (8, .d (.int _ _)), (9, .d (encL _)), (11, .d (encOB _ _)), (14, .d (.int _ _))] ⟨rfl, rfl, rfl, rfl, rfl, rfl, rfl, trivial⟩ ?_
            refine Runs.rseq ?_
            refine RO.opv (v' := .d (.bool true)) (opv_move rfl) rfl ?_
            refine RO.opv (v' := .d (.bool true)) (opv_assign rfl) rfl ?_
            refine RO.nil ?_
            refine Runs.ret ?_
            refine blockQ_ret ?_
            refine thenQ_ret ?_
            refine thenQ_ret ?_
            refine blockQ_ret ?_
            refine thenQ_ret ?_
            refine EndQ.tmp (.inr rfl) rfl rfl 0 (by exact Nat.le_refl _) (by exact Nat.zero_le _) trivial ⟨?_, rfl⟩
            first
              | rfl
              | (refine bool_eq ?_; simp [he]; done)
              | (refine bool_eq ?_
                 have hall := hi.2
                 rw [hi2, List.take_length] at hall
                 rw [hT.1]
                 exact accept_clean hk h1k hT.2 hall [] lv (fun g hg => by cases hg))
          · try simp only [decide_eq_true_eq, decide_eq_false_iff_not, beq_iff_eq, beq_eq_false_iff_ne, bne_iff_ne, bne_eq_false_iff_eq, Int.not_lt, Int.not_le, ne_eq, Bool.not_eq_true', Bool.not_eq_false', gt_iff_lt, ge_iff_le] at h5
            have c1 := h5
            refine RO.opgv (v' := .d (.list (encs _))) rfl (opv_move rfl) rfl ?_
            refine RO.opgv (v' := .d (.int _ _)) rfl (opv_move rfl) rfl ?_
            refine RO.opgv (v' := .d (.ptr _)) rfl (opv_index_terms rfl rfl hi2) rfl ?_
            refine RO.opgv (v' := .d (enc _)) rfl (opv_load_pterm rfl) rfl ?_
            refine RO.opgv (v' := .d (.bool _)) rfl (opv_callF (rhas_fn ts[i] bCall 1 (by have := bulks_mem (List.getElem_mem hi2); omega)) rfl rfl rfl trivial) rfl ?_
            refine RO.opv (v' := .d (.bool _)) (opv_pick rfl rfl) rfl ?_
            refine RO.opc (opv_move rfl) (fun h6 => ?_) (fun h6 => ?_)
            · try simp only [decide_eq_true_eq, decide_eq_false_iff_not, beq_iff_eq, beq_eq_false_iff_ne, bne_iff_ne, bne_eq_false_iff_eq, Int.not_lt, Int.not_le, ne_eq, Bool.not_eq_true', Bool.not_eq_false', gt_iff_lt, ge_iff_le] at h6
              have c2 := h6
              refine RO.off rfl ?_
              refine RO.off rfl ?_
              refine RO.off rfl ?_
              refine RO.off rfl ?_
              refine RO.off rfl ?_
              refine RO.opv (v' := .d (.bool true)) (opv_pick rfl rfl) rfl ?_
              refine RO.opv (v' := .d (.bool true)) (opv_move rfl) rfl ?_
              refine RO.off rfl ?_
              refine RO.off rfl ?_
              refine RO.off rfl ?_
              refine RO.off rfl ?_
              refine RO.off rfl ?_
              refine RO.off rfl ?_
              refine RO.off rfl ?_
              refine RO.opv (v' := .d (.bool true)) (opv_pick rfl rfl) rfl ?_
              refine RO.opv (v' := .d (.bool true)) (opv_move rfl) rfl ?_
              refine RO.off rfl ?_
              refine RO.off rfl ?_
              refine RO.off rfl ?_
              refine RO.off rfl ?_
              refine RO.off rfl ?_
              refine RO.opv (v' := .d (.bool true)) (opv_pick rfl rfl) rfl ?_
              refine RO.nil ?_
              refine Runs.condT rfl ?_
              refine Runs.has [(1, .d (.list (encs _))), (2, .d (.int _ _)), (7, .d (.bool true)), (8, .d (.int _ _)), (9, .d (encL _)), (11, .d (encOB _ _)), (14, .d (.int _ _))] ⟨rfl, rfl, rfl, rfl, rfl, rfl, rfl, trivial⟩ ?_
              refine Runs.rseq ?_
              refine RO.opv (v' := .d (.bool true)) (opv_move rfl) rfl ?_
              refine RO.opv (v' := .d (.bool true)) (opv_assign rfl) rfl ?_
              refine RO.nil ?_
              refine Runs.ret ?_
              refine blockQ_ret ?_
              refine thenQ_ret ?_
              refine thenQ_ret ?_
              refine blockQ_ret ?_
              refine thenQ_ret ?_
              refine EndQ.tmp (.inr rfl) rfl rfl 0 (by exact Nat.le_refl _) (by exact Nat.zero_le _) trivial ⟨?_, rfl⟩
              first
                | rfl
                | (refine bool_eq ?_; simp [he]; done)
                | (refine bool_eq ?_
                   have hall := hi.2
                   rw [hi2, List.take_length] at hall
                   rw [hT.1]
                   exact accept_clean hk h1k hT.2 hall [] lv (fun g hg => by cases hg))
            · try simp only [decide_eq_true_eq, decide_eq_false_iff_not, beq_iff_eq, beq_eq_false_iff_ne, bne_iff_ne, bne_eq_false_iff_eq, Int.not_lt, Int.not_le, ne_eq, Bool.not_eq_true', Bool.not_eq_false', gt_iff_lt, ge_iff_le] at h6
              have c2 := h6
              refine RO.opgv (v' := .d (.list (encs _))) rfl (opv_move rfl) rfl ?_
              refine RO.opgv (v' := .d (.int _ _)) rfl (opv_move rfl) rfl ?_
              refine RO.opgv (v' := .d (.ptr _)) rfl (opv_index_terms rfl rfl hi2) rfl ?_
              refine RO.opgv (v' := .d (enc _)) rfl (opv_load_pterm rfl) rfl ?_
              refine RO.opgv (v' := .d (.bool _)) rfl (opv_callF (rhas_fn ts[i] bDecl 4 (by have := bulks_mem (List.getElem_mem hi2); omega)) rfl rfl rfl trivial) rfl ?_
              refine RO.opv (v' := .d (.bool _)) (opv_pick rfl rfl) rfl ?_
              refine RO.opc (opv_move rfl) (fun h7 => ?_) (fun h7 => ?_)
              · try simp only [decide_eq_true_eq, decide_eq_false_iff_not, beq_iff_eq, beq_eq_false_iff_ne, bne_iff_ne, bne_eq_false_iff_eq, Int.not_lt, Int.not_le, ne_eq, Bool.not_eq_true', Bool.not_eq_false', gt_iff_lt, ge_iff_le] at h7
                have c3 := h7
                refine RO.off rfl ?_
                refine RO.off rfl ?_
                refine RO.off rfl ?_
                refine RO.off rfl ?_
                refine RO.off rfl ?_
                refine RO.off rfl ?_
                refine RO.off rfl ?_
                refine RO.opv (v' := .d (.bool true)) (opv_pick rfl rfl) rfl ?_
                refine RO.opv (v' := .d (.bool true)) (opv_move rfl) rfl ?_
                refine RO.off rfl ?_
                refine RO.off rfl ?_
                refine RO.off rfl ?_
                refine RO.off rfl ?_
                refine RO.off rfl ?_
                refine RO.opv (v' := .d (.bool true)) (opv_pick rfl rfl) rfl ?_
                refine RO.nil ?_
                refine Runs.condT rfl ?_
                refine Runs.has [(1, .d (.list (encs _))), (2, .d (.int _ _)), (7, .d (.bool true)), (8, .d (.int _ _)), (9, .d (encL _)), (11, .d (encOB _ _)), (14, .d (.int _ _))] ⟨rfl, rfl, rfl, rfl, rfl, rfl, rfl, trivial⟩ ?_
                refine Runs.rseq ?_
                refine RO.opv (v' := .d (.bool true)) (opv_move rfl) rfl ?_
                refine RO.opv (v' := .d (.bool true)) (opv_assign rfl) rfl ?_
                refine RO.nil ?_
                refine Runs.ret ?_
                refine blockQ_ret ?_
                refine thenQ_ret ?_
                refine thenQ_ret ?_
                refine blockQ_ret ?_
                refine thenQ_ret ?_
                refine EndQ.tmp (.inr rfl) rfl rfl 0 (by exact Nat.le_refl _) (by exact Nat.zero_le _) trivial ⟨?_, rfl⟩
                first
                  | rfl
                  | (refine bool_eq ?_; simp [he]; done)
                  | (refine bool_eq ?_
                     have hall := hi.2
                     rw [hi2, List.take_length] at hall
                     rw [hT.1]
                     exact accept_clean hk h1k hT.2 hall [] lv (fun g hg => by cases hg))
              · try simp only [decide_eq_true_eq, decide_eq_false_iff_not, beq_iff_eq, beq_eq_false_iff_ne, bne_iff_ne, bne_eq_false_iff_eq, Int.not_lt, Int.not_le, ne_eq, Bool.not_eq_true', Bool.not_eq_false', gt_iff_lt, ge_iff_le] at h7
                have c3 := h7
                refine RO.opgv (v' := .d (.list (encs _))) rfl (opv_move rfl) rfl ?_
                refine RO.opgv (v' := .d (.int _ _)) rfl (opv_move rfl) rfl ?_
                refine RO.opgv (v' := .d (.ptr _)) rfl (opv_index_terms rfl rfl hi2) rfl ?_
                refine RO.opgv (v' := .d (enc _)) rfl (opv_load_pterm rfl) rfl ?_
                refine RO.opgv (v' := .d (.list (ints _))) rfl (opv_callF (vars_fn ts[i] (by have := bulks_mem (List.getElem_mem hi2); omega)) rfl rfl rfl trivial) rfl ?_
                refine RO.opgv (v' := .d (.int _ _)) rfl (opv_len_ints rfl) rfl ?_
                refine RO.opgv (v' := .d (.bool _)) rfl (opv_bin rfl rfl rfl) rfl ?_
                refine RO.opv (v' := .d (.bool _)) (opv_pick rfl rfl) rfl ?_
                refine RO.opc (opv_move rfl) (fun h8 => ?_) (fun h8 => ?_)
                · try simp only [decide_eq_true_eq, decide_eq_false_iff_not, beq_iff_eq, beq_eq_false_iff_ne, bne_iff_ne, bne_eq_false_iff_eq, Int.not_lt, Int.not_le, ne_eq, Bool.not_eq_true', Bool.not_eq_false', gt_iff_lt, ge_iff_le] at h8
                  have c4 := h8
                  refine RO.off rfl ?_
                  refine RO.off rfl ?_
                  refine RO.off rfl ?_
                  refine RO.off rfl ?_
                  refine RO.off rfl ?_
                  refine RO.opv (v' := .d (.bool true)) (opv_pick rfl rfl) rfl ?_
                  refine RO.nil ?_
                  refine Runs.condT rfl ?_
                  refine Runs.has [(1, .d (.list (encs _))), (2, .d (.int _ _)), (7, .d (.bool true)), (8, .d (.int _ _)), (9, .d (encL _)), (11, .d (encOB _ _)), (14, .d (.int _ _))] ⟨rfl, rfl, rfl, rfl, rfl, rfl, rfl, trivial⟩ ?_
                  refine Runs.rseq ?_
                  refine RO.opv (v' := .d (.bool true)) (opv_move rfl) rfl ?_
                  refine RO.opv (v' := .d (.bool true)) (opv_assign rfl) rfl ?_
                  refine RO.nil ?_
                  refine Runs.ret ?_
                  refine blockQ_ret ?_
                  refine thenQ_ret ?_
                  refine thenQ_ret ?_
                  refine blockQ_ret ?_
                  refine thenQ_ret ?_
                  refine EndQ.tmp (.inr rfl) rfl rfl 0 (by exact Nat.le_refl _) (by exact Nat.zero_le _) trivial ⟨?_, rfl⟩
                  first
                    | rfl
                    | (refine bool_eq ?_; simp [he]; done)
                    | (refine bool_eq ?_
                       have hall := hi.2
                       rw [hi2, List.take_length] at hall
                       rw [hT.1]
                       exact accept_clean hk h1k hT.2 hall [] lv (fun g hg => by cases hg))
                · try simp only [decide_eq_true_eq, decide_eq_false_iff_not, beq_iff_eq, beq_eq_false_iff_ne, bne_iff_ne, bne_eq_false_iff_eq, Int.not_lt, Int.not_le, ne_eq, Bool.not_eq_true', Bool.not_eq_false', gt_iff_lt, ge_iff_le] at h8
                  have c4 := h8
                  refine RO.opgv (v' := .d (.list (encs _))) rfl (opv_move rfl) rfl ?_
                  refine RO.opgv (v' := .d (.int _ _)) rfl (opv_move rfl) rfl ?_
                  refine RO.opgv (v' := .d (.ptr _)) rfl (opv_index_terms rfl rfl hi2) rfl ?_
                  refine RO.opgv (v' := .d (enc _)) rfl (opv_load_pterm rfl) rfl ?_
                  refine RO.opgv (v' := .d (.bool _)) rfl (opv_callF (plainS_fn ts[i] (by have := bulks_mem (List.getElem_mem hi2); omega)) rfl rfl rfl trivial) rfl ?_
                  refine RO.opc (opv_pick rfl rfl) (fun h9 => ?_) (fun h9 => ?_)
                  · try simp only [decide_eq_true_eq, decide_eq_false_iff_not, beq_iff_eq, beq_eq_false_iff_ne, bne_iff_ne, bne_eq_false_iff_eq, Int.not_lt, Int.not_le, ne_eq, Bool.not_eq_true', Bool.not_eq_false', gt_iff_lt, ge_iff_le] at h9
                    have c5 := h9
                    refine RO.nil ?_
                    refine Runs.condT rfl ?_
                    refine Runs.has [(1, .d (.list (encs _))), (2, .d (.int _ _)), (7, .d (.bool true)), (8, .d (.int _ _)), (9, .d (encL _)), (11, .d (encOB _ _)), (14, .d (.int _ _))] ⟨rfl, rfl, rfl, rfl, rfl, rfl, rfl, trivial⟩ ?_
                    refine Runs.rseq ?_
                    refine RO.opv (v' := .d (.bool true)) (opv_move rfl) rfl ?_
                    refine RO.opv (v' := .d (.bool true)) (opv_assign rfl) rfl ?_
                    refine RO.nil ?_
                    refine Runs.ret ?_
                    refine blockQ_ret ?_
                    refine thenQ_ret ?_
                    refine thenQ_ret ?_
                    refine blockQ_ret ?_
                    refine thenQ_ret ?_
                    refine EndQ.tmp (.inr rfl) rfl rfl 0 (by exact Nat.le_refl _) (by exact Nat.zero_le _) trivial ⟨?_, rfl⟩
                    first
                      | rfl
                      | (refine bool_eq ?_; simp [he]; done)
                      | (refine bool_eq ?_
                         have hall := hi.2
                         rw [hi2, List.take_length] at hall
                         rw [hT.1]
                         exact accept_clean hk h1k hT.2 hall [] lv (fun g hg => by cases hg))
                  · try simp only [decide_eq_true_eq, decide_eq_false_iff_not, beq_iff_eq, beq_eq_false_iff_ne, bne_iff_ne, bne_eq_false_iff_eq, Int.not_lt, Int.not_le, ne_eq, Bool.not_eq_true', Bool.not_eq_false', gt_iff_lt, ge_iff_le] at h9
                    have c5 := h9
                    refine RO.nil ?_
                    refine Runs.condF rfl ?_
                    refine Runs.skip ?_
                    refine blockQ_normal ?_
                    refine thenQ_normal ?_
                    refine Runs.has [(1, .d (.list (encs _))), (2, .d (.int _ _)), (7, .d (.bool true)), (8, .d (.int _ _)), (9, .d (encL _)), (11, .d (encOB _ _)), (14, .d (.int _ _))] ⟨rfl, rfl, rfl, rfl, rfl, rfl, rfl, trivial⟩ ?_
                    refine Runs.region ?_
                    refine RO.opv (v' := .d (.int _ _)) (opv_move rfl) rfl ?_
                    refine RO.opv (v' := .d (.int _ _)) (opv_bin rfl rfl rfl) rfl ?_
                    refine RO.opv (v' := .d (.int _ _)) (opv_assign rfl) rfl ?_
                    refine RO.nil ?_
                    refine thenQ_normal ?_
                    refine ⟨i + 1, 0, (by rw [hK]; exact Nat.le_of_ble_eq_true rfl), ⟨rfl, rfl, rfl, rfl, rfl, rfl, trivial⟩, ⟨?_, trivial⟩, rfl, ?_, ?_⟩
                    · refine int_eq ?_; rw [wrap64 (by omega) (by omega)]; omega
                    · refine ⟨by omega, fun t ht => ?_⟩
                      rw [List.take_succ_eq_append_getElem hi2] at ht
                      rcases List.mem_append.1 ht with ht | ht
                      · exact hi.2 t ht
                      · simp at ht; subst ht; unfold cleanT; rw [c1, c2, c3, c5, decide_eq_false (by omega)]; rfl
                    · omega
        · try simp only [decide_eq_true_eq, decide_eq_false_iff_not, beq_iff_eq, beq_eq_false_iff_ne, bne_iff_ne, bne_eq_false_iff_eq, Int.not_lt, Int.not_le, ne_eq, Bool.not_eq_true', Bool.not_eq_false', gt_iff_lt, ge_iff_le] at h4
          have hi2 : i = ts.length := by omega
          refine RO.nil ?_
          refine Runs.condF rfl ?_
          refine Runs.exit ?_
          refine thenQ_exit ?_
          refine thenQ_exit ?_
          refine blockQ_here ?_
          refine thenQ_normal ?_
          refine Runs.has [(2, .d (.int _ _)), (7, .d (.bool true)), (8, .d (.int _ _)), (9, .d (encL _)), (11, .d (encOB _ _))] ⟨rfl, rfl, rfl, rfl, rfl, trivial⟩ ?_
          refine Runs.rseq ?_
          refine RO.opv (v' := .d (.int _ _)) (opv_move rfl) rfl ?_
          refine RO.opv (v' := .d (.int _ _)) (opv_arith (r := ((k : Nat) : Int)) rfl rfl (by simp only [binD, if_true]; rw [wrap64 (by omega) (by omega)]; congr 2; omega)) rfl ?_
          refine RO.opv (v' := .d (enc _)) (opv_callF (num_fn _) rfl rfl rfl trivial) rfl ?_
          refine RO.opv (v' := .d (enc _)) (opv_callF (let_fn 0) rfl rfl rfl trivial) rfl ?_
          refine RO.opv (v' := .d (.list (encs _))) (opv_bs_term2 rfl rfl ) rfl ?_
          refine RO.opv (v' := .d (enc _)) (opv_callF (make_fn bWrite [.node 2 ((k : Nat) : Int) ⟨#[]⟩ [], .node 1 0 ⟨#[]⟩ []] (Nat.le_of_ble_eq_true rfl)) rfl rfl rfl trivial) rfl ?_
          refine RO.opn (v' := .ref 0 0) (O' := [_]) (opv_alloc) rfl rfl ?_
          refine RO.op0n (O' := [_]) (opv_store_term rfl rfl rfl (Nat.le_of_ble_eq_true rfl)) rfl ?_
          refine RO.nil ?_
          refine Runs.has [(2, .d (.int _ _)), (7, .d (.bool true)), (9, .d (encL _)), (11, .d (encOB _ _)), (15, .ref 0 0)] ⟨rfl, rfl, rfl, rfl, rfl, trivial⟩ ?_
          refine Runs.rseq ?_
          refine RO.opv (v' := .d (encL _)) (opv_move rfl) rfl ?_
          refine RO.opv (v' := .d (encOB _ _)) (opv_move rfl) rfl ?_
          refine RO.opv (v' := .d (enc _)) (opv_load_term rfl rfl rfl) rfl ?_
          refine RO.opv (v' := .d (.list (encs _))) (opv_bs_term1 rfl ) rfl ?_
          refine RO.opv (v' := .d (.int _ _)) (opv_move rfl) rfl ?_
          refine RO.opv (v' := .d (.int _ _)) (opv_conv (r := lv) rfl (wrap64 (by omega) (by omega))) rfl ?_
          refine RO.opv (opv_callF (accept_fn (C k) (C_ok hk) (newB (C k) ts).1 [(.node 3 0 bWrite [.node 2 ((k : Nat) : Int) ⟨#[]⟩ [], .node 1 0 ⟨#[]⟩ []])] lv (newB_all_len _ _) (newB_small (by omega)) (Nat.le_of_ble_eq_true rfl)) rfl rfl rfl ⟨trivial, trivial, trivial⟩) rfl ?_
          refine RO.opv (opv_move rfl) rfl ?_
          refine RO.opv (v' := .d (.bool _)) (opv_extract rfl rfl) rfl ?_
          refine RO.opv (v' := .d (.str _)) (opv_extract rfl rfl) rfl ?_
          refine RO.opv (v' := .d (.bool _)) (opv_assign rfl) rfl ?_
          refine RO.opv (v' := .d (.str _)) (opv_assign rfl) rfl ?_
          refine RO.nil ?_
          refine Runs.has [(2, .d (.int _ _)), (7, .d (.bool true)), (9, .d (encL _)), (11, .d (encOB _ _)), (16, .d (.bool _))] ⟨rfl, rfl, rfl, rfl, rfl, trivial⟩ ?_
          refine Runs.rseq ?_
          refine RO.opv (v' := .d (encL _)) (opv_move rfl) rfl ?_
          refine RO.opv (v' := .d (encOB _ _)) (opv_move rfl) rfl ?_
          refine RO.opv (v' := .d (.int _ _)) (opv_move rfl) rfl ?_
          refine RO.opv (v' := .d (.int _ _)) (opv_conv (r := lv) rfl (wrap64 (by omega) (by omega))) rfl ?_
          refine RO.opv (opv_callZ (accept_fn (C k) (C_ok hk) (newB (C k) ts).1 [] lv (newB_all_len _ _) (newB_small (by omega)) (Nat.zero_le _)) rfl rfl rfl ⟨trivial, trivial, trivial⟩) rfl ?_
          refine RO.opv (opv_move rfl) rfl ?_
          refine RO.opv (v' := .d (.bool _)) (opv_extract rfl rfl) rfl ?_
          refine RO.opv (v' := .d (.str _)) (opv_extract rfl rfl) rfl ?_
          refine RO.opv (v' := .d (.bool _)) (opv_assign rfl) rfl ?_
          refine RO.opv (v' := .d (.str _)) (opv_assign rfl) rfl ?_
          refine RO.nil ?_
          refine Runs.has [(7, .d (.bool true)), (16, .d (.bool _)), (18, .d (.bool _))] ⟨rfl, rfl, rfl, trivial⟩ ?_
          refine Runs.rseq ?_
          refine RO.opv (v' := .d (.bool true)) (opv_move rfl) rfl ?_
          refine RO.opv (v' := .d (.bool true)) (opv_move rfl) rfl ?_
          refine RO.opgv (v' := .d (.bool _)) rfl (opv_move rfl) rfl ?_
          refine RO.opv (v' := .d (.bool _)) (opv_pick rfl rfl) rfl ?_
          refine RO.opc (opv_move rfl) (fun h10 => ?_) (fun h10 => ?_)
          · try simp only [decide_eq_true_eq, decide_eq_false_iff_not, beq_iff_eq, beq_eq_false_iff_ne, bne_iff_ne, bne_eq_false_iff_eq, Int.not_lt, Int.not_le, ne_eq, Bool.not_eq_true', Bool.not_eq_false', gt_iff_lt, ge_iff_le] at h10
            refine RO.opgv (v' := .d (.bool _)) rfl (opv_move rfl) rfl ?_
            refine RO.opv (v' := .d (.bool _)) (opv_pick rfl rfl) rfl ?_
            refine RO.opv (v' := .d (.bool _)) (opv_assign rfl) rfl ?_
            refine RO.nil ?_
            refine Runs.ret ?_
            refine EndQ.tmp (.inr rfl) rfl rfl 0 (by exact Nat.le_refl _) (by exact Nat.zero_le _) trivial ⟨?_, rfl⟩
            first
              | rfl
              | (refine bool_eq ?_; simp [he]; done)
              | (refine bool_eq ?_
                 have hall := hi.2
                 rw [hi2, List.take_length] at hall
                 rw [hT.1]
                 exact accept_clean hk h1k hT.2 hall [] lv (fun g hg => by cases hg))
          · try simp only [decide_eq_true_eq, decide_eq_false_iff_not, beq_iff_eq, beq_eq_false_iff_ne, bne_iff_ne, bne_eq_false_iff_eq, Int.not_lt, Int.not_le, ne_eq, Bool.not_eq_true', Bool.not_eq_false', gt_iff_lt, ge_iff_le] at h10
            have hall := hi.2; rw [hi2, List.take_length] at hall
            rw [hT.1, accept_clean hk h1k hT.2 hall [(.node 3 0 bWrite [.node 2 ((k : Nat) : Int) ⟨#[]⟩ [], .node 1 0 ⟨#[]⟩ []])] lv (fun g hg b b0 b1 => by simp at hg; rw [hg]; exact high_reason hk b0 b1)] at h10; cases h10
end Go.Proofs.Ytohncglpjiplaaa.AM
