import Derived.Test.YtohncglpjiplaaaL0
namespace Go.Proofs.Ytohncglpjiplaaa.AM
open Go
set_option linter.unusedVariables false
set_option linter.unusedSimpArgs false
theorem checkMore_fn (n : Int) (ts gs : List Term) (more : Term) (g1 : 0 ≤ n) (g1' : n ≤ 255) (g2 : bulks ts ≤ 2 ^ 20) (_g2' : fitss ts) (g3 : bulks gs ≤ 2 ^ 20) (_g3' : fitss gs) (g4 : more.bulk ≤ 2 ^ 20) (_g4' : more.fits) : Fn Try.prog 4 [.d (.int .u8 n), .d (.list (encs ts)), .d (.list (encs gs)), .d (enc more)] [] (.d (.bool true)) [] := by
  obtain ⟨j, hjn⟩ : ∃ j : Nat, (j : Int) = n.tmod 7 := ⟨(n.tmod 7).toNat, by rw [Int.tmod_eq_emod_of_nonneg g1]; omega⟩
  have hj : j < 7 := by rw [Int.tmod_eq_emod_of_nonneg g1] at hjn; omega
  have hrem : n.tmod 7 = (j : Int) := hjn.symm
  obtain ⟨k, hkj⟩ : ∃ k, k = j + 1 := ⟨_, rfl⟩
  have hk : k < 16 := by omega
  have h1k : 1 ≤ k := by omega
  have hn := C_n hk
  have hL := bulks_len ts
  have hLg := bulks_len gs
  have hab := bulks_app ts [more]
  have hgb := bulks_app gs [more]
  have hb1' : bulks [more] = more.bulk + 0 := rfl
  refine Does.run Try.func4 rfl Try.ntmps4 rfl fun K hK => ?_
  refine Runs.rseq ?_
  refine RO.opn (v' := .ref 0 0) (O' := [_]) (opv_box_term rfl) rfl rfl ?_
  refine RO.opv (v' := .d (.bool false)) (opv_assign rfl) rfl ?_
  refine RO.nil ?_
  refine Runs.has [(0, .d (.int _ _)), (1, .d (.list (encs _))), (2, .d (.list (encs _))), (7, .ref 0 0), (8, .d (.bool false))] ⟨rfl, rfl, rfl, rfl, rfl, trivial⟩ ?_
  refine Runs.rseq ?_
  refine RO.opv (v' := .d (.bool true)) (opv_callF (shown_fn) rfl rfl rfl trivial) rfl ?_
  refine RO.opv (v' := .d (.bool true)) (opv_assign rfl) rfl ?_
  refine RO.nil ?_
  refine Runs.has [(0, .d (.int _ _)), (1, .d (.list (encs _))), (2, .d (.list (encs _))), (7, .ref 0 0), (8, .d (.bool false)), (9, .d (.bool true))] ⟨rfl, rfl, rfl, rfl, rfl, rfl, trivial⟩ ?_
  refine Runs.rseq ?_
  refine RO.opv (v' := .d (.int _ _)) (opv_move rfl) rfl ?_
  refine RO.opv (v' := .d (.int _ _)) (opv_arith (r := (j : Int)) rfl rfl (by simp only [binD, if_true]; rw [if_neg (by decide), hrem])) rfl ?_
  refine RO.opv (v' := .d (.int _ _)) (opv_conv (r := (j : Int)) rfl (wrap64 (by omega) (by omega))) rfl ?_
  refine RO.opv (v' := .d (.int _ _)) (opv_arith (r := ((k + 1 : Nat) : Int)) rfl rfl (by simp only [binD, if_true]; rw [wrap64 (by omega) (by omega)]; congr 2; omega)) rfl ?_
  refine RO.opv (v' := .d (.int _ _)) (opv_assign rfl) rfl ?_
  refine RO.nil ?_
  refine Runs.has [(1, .d (.list (encs _))), (2, .d (.list (encs _))), (7, .ref 0 0), (8, .d (.bool false)), (9, .d (.bool true)), (10, .d (.int _ _))] ⟨rfl, rfl, rfl, rfl, rfl, rfl, trivial⟩ ?_
  refine Runs.rseq ?_
  refine RO.opv (v' := .d (.int _ _)) (opv_move rfl) rfl ?_
  refine RO.opv (v' := .d (.int _ _)) (opv_move rfl) rfl ?_
  refine RO.opv (v' := .d (.list (encPs _))) (opv_callF (chainp_fn k hk) rfl rfl rfl trivial) rfl ?_
  refine RO.opv (opv_callF (lnewC_fn k hk) rfl rfl rfl ⟨trivial, trivial, trivial⟩) rfl ?_
  refine RO.opv (opv_move rfl) rfl ?_
  refine RO.opv (v' := .d (encL _)) (opv_extract rfl rfl) rfl ?_
  refine RO.opv (v' := .d (.int _ _)) (opv_extract rfl rfl) rfl ?_
  refine RO.opv (v' := .d (encL _)) (opv_assign rfl) rfl ?_
  refine RO.opv (v' := .d (.int _ _)) (opv_assign rfl) rfl ?_
  refine RO.nil ?_
  refine Runs.has [(1, .d (.list (encs _))), (2, .d (.list (encs _))), (7, .ref 0 0), (8, .d (.bool false)), (9, .d (.bool true)), (11, .d (encL _))] ⟨rfl, rfl, rfl, rfl, rfl, rfl, trivial⟩ ?_
  refine Runs.seq ?_
  refine Runs.rseq ?_
  refine RO.opv (v' := .d (encL _)) (opv_move rfl) rfl ?_
  refine RO.opv (v' := .d (.bool false)) (opv_eqnil rfl rfl rfl) rfl ?_
  refine RO.opv (v' := .d (.bool false)) (opv_move rfl) rfl ?_
  refine RO.opgv (v' := .d (.list (encs _))) rfl (opv_move rfl) rfl ?_
  refine RO.opgv (v' := .d (.bool _)) rfl (opv_callF (few_fn ts (by omega)) rfl rfl rfl trivial) rfl ?_
  refine RO.opgv (v' := .d (.bool _)) rfl (opv_not rfl rfl) rfl ?_
  refine RO.opv (v' := .d (.bool _)) (opv_pick rfl rfl) rfl ?_
  refine RO.opc (opv_move rfl) (fun h1 => ?_) (fun h1 => ?_)
  · try simp only [decide_eq_true_eq, decide_eq_false_iff_not, beq_iff_eq, beq_eq_false_iff_ne, bne_iff_ne, bne_eq_false_iff_eq, Int.not_lt, Int.not_le, ne_eq, Bool.not_eq_true', Bool.not_eq_false', gt_iff_lt, ge_iff_le] at h1
    refine RO.off rfl ?_
    refine RO.off rfl ?_
    refine RO.off rfl ?_
    refine RO.opv (v' := .d (.bool true)) (opv_pick rfl rfl) rfl ?_
    refine RO.opv (v' := .d (.bool true)) (opv_move rfl) rfl ?_
    refine RO.off rfl ?_
    refine RO.off rfl ?_
    refine RO.off rfl ?_
    refine RO.off rfl ?_
    refine RO.opv (v' := .d (.bool true)) (opv_pick rfl rfl) rfl ?_
    refine RO.nil ?_
    refine Runs.condT rfl ?_
    refine Runs.has [(1, .d (.list (encs _))), (2, .d (.list (encs _))), (7, .ref 0 0), (8, .d (.bool false)), (9, .d (.bool true)), (11, .d (encL _))] ⟨rfl, rfl, rfl, rfl, rfl, rfl, trivial⟩ ?_
    refine Runs.rseq ?_
    refine RO.opv (v' := .d (.bool true)) (opv_move rfl) rfl ?_
    refine RO.opv (v' := .d (.bool true)) (opv_move rfl) rfl ?_
    refine RO.opgv (v' := .d (encL _)) rfl (opv_move rfl) rfl ?_
    refine RO.opgv (v' := .d (.bool true)) rfl (opv_nenil rfl rfl rfl) rfl ?_
    refine RO.opv (v' := .d (.bool true)) (opv_pick rfl rfl) rfl ?_
    refine RO.opv (v' := .d (.bool true)) (opv_assign rfl) rfl ?_
    refine RO.nil ?_
    refine Runs.ret ?_
    refine thenQ_ret ?_
    refine EndQ.tmp (.inr rfl) rfl rfl 0 (by exact Nat.le_refl _) (by exact Nat.zero_le _) trivial ⟨?_, rfl⟩
    first
      | rfl
      | (refine bool_eq ?_; simp [he]; done)
      | (refine bool_eq ?_
         have hT2 : (newB (C k) (ts ++ [more])).1 = some (parsesT (C k) ts ++ parsesT (C k) [more]) := by
           rcases newB_cases (C k) (ts ++ [more]) with ⟨_, _, m1, _⟩ | ⟨_, _, hx⟩
           · rw [m1, parsesT_app]
           · exact absurd hf hx
         have hlv2 := parsesT_level hk (ts ++ [more])
         rw [parsesT_app] at hlv2
         have hwd2 : (acceptB (C k) (newB (C k) (ts ++ [more])).1 gs 0).1 = true := by simpa using hwd
         rw [hT2] at hwd2
         rw [hT]
         exact accept_clause hk h1k hlv2 gs 0 hwd2)
  · try simp only [decide_eq_true_eq, decide_eq_false_iff_not, beq_iff_eq, beq_eq_false_iff_ne, bne_iff_ne, bne_eq_false_iff_eq, Int.not_lt, Int.not_le, ne_eq, Bool.not_eq_true', Bool.not_eq_false', gt_iff_lt, ge_iff_le] at h1
    refine RO.opgv (v' := .d (.list (encs _))) rfl (opv_move rfl) rfl ?_
    refine RO.opgv (v' := .d (.bool _)) rfl (opv_callF (few_fn gs (by omega)) rfl rfl rfl trivial) rfl ?_
    refine RO.opgv (v' := .d (.bool _)) rfl (opv_not rfl rfl) rfl ?_
    refine RO.opv (v' := .d (.bool _)) (opv_pick rfl rfl) rfl ?_
    refine RO.opc (opv_move rfl) (fun h2 => ?_) (fun h2 => ?_)
    · try simp only [decide_eq_true_eq, decide_eq_false_iff_not, beq_iff_eq, beq_eq_false_iff_ne, bne_iff_ne, bne_eq_false_iff_eq, Int.not_lt, Int.not_le, ne_eq, Bool.not_eq_true', Bool.not_eq_false', gt_iff_lt, ge_iff_le] at h2
      refine RO.off rfl ?_
      refine RO.off rfl ?_
      refine RO.off rfl ?_
      refine RO.off rfl ?_
      refine RO.opv (v' := .d (.bool true)) (opv_pick rfl rfl) rfl ?_
      refine RO.nil ?_
      refine Runs.condT rfl ?_
      refine Runs.has [(1, .d (.list (encs _))), (2, .d (.list (encs _))), (7, .ref 0 0), (8, .d (.bool false)), (9, .d (.bool true)), (11, .d (encL _))] ⟨rfl, rfl, rfl, rfl, rfl, rfl, trivial⟩ ?_
      refine Runs.rseq ?_
      refine RO.opv (v' := .d (.bool true)) (opv_move rfl) rfl ?_
      refine RO.opv (v' := .d (.bool true)) (opv_move rfl) rfl ?_
      refine RO.opgv (v' := .d (encL _)) rfl (opv_move rfl) rfl ?_
      refine RO.opgv (v' := .d (.bool true)) rfl (opv_nenil rfl rfl rfl) rfl ?_
      refine RO.opv (v' := .d (.bool true)) (opv_pick rfl rfl) rfl ?_
      refine RO.opv (v' := .d (.bool true)) (opv_assign rfl) rfl ?_
      refine RO.nil ?_
      refine Runs.ret ?_
      refine thenQ_ret ?_
      refine EndQ.tmp (.inr rfl) rfl rfl 0 (by exact Nat.le_refl _) (by exact Nat.zero_le _) trivial ⟨?_, rfl⟩
      first
        | rfl
        | (refine bool_eq ?_; simp [he]; done)
        | (refine bool_eq ?_
           have hT2 : (newB (C k) (ts ++ [more])).1 = some (parsesT (C k) ts ++ parsesT (C k) [more]) := by
             rcases newB_cases (C k) (ts ++ [more]) with ⟨_, _, m1, _⟩ | ⟨_, _, hx⟩
             · rw [m1, parsesT_app]
             · exact absurd hf hx
           have hlv2 := parsesT_level hk (ts ++ [more])
           rw [parsesT_app] at hlv2
           have hwd2 : (acceptB (C k) (newB (C k) (ts ++ [more])).1 gs 0).1 = true := by simpa using hwd
           rw [hT2] at hwd2
           rw [hT]
           exact accept_clause hk h1k hlv2 gs 0 hwd2)
    · try simp only [decide_eq_true_eq, decide_eq_false_iff_not, beq_iff_eq, beq_eq_false_iff_ne, bne_iff_ne, bne_eq_false_iff_eq, Int.not_lt, Int.not_le, ne_eq, Bool.not_eq_true', Bool.not_eq_false', gt_iff_lt, ge_iff_le] at h2
      refine RO.opgv (v' := .d (enc _)) rfl (opv_load_term rfl rfl rfl) rfl ?_
      refine RO.opgv (v' := .d (.list (encs _))) rfl (opv_bs_term1 rfl ) rfl ?_
      refine RO.opgv (v' := .d (.bool _)) rfl (opv_callF (few_fn [more] (by omega)) rfl rfl rfl trivial) rfl ?_
      refine RO.opgv (v' := .d (.bool _)) rfl (opv_not rfl rfl) rfl ?_
      refine RO.opc (opv_pick rfl rfl) (fun h3 => ?_) (fun h3 => ?_)
      · try simp only [decide_eq_true_eq, decide_eq_false_iff_not, beq_iff_eq, beq_eq_false_iff_ne, bne_iff_ne, bne_eq_false_iff_eq, Int.not_lt, Int.not_le, ne_eq, Bool.not_eq_true', Bool.not_eq_false', gt_iff_lt, ge_iff_le] at h3
        refine RO.nil ?_
        refine Runs.condT rfl ?_
        refine Runs.has [(1, .d (.list (encs _))), (2, .d (.list (encs _))), (7, .ref 0 0), (8, .d (.bool false)), (9, .d (.bool true)), (11, .d (encL _))] ⟨rfl, rfl, rfl, rfl, rfl, rfl, trivial⟩ ?_
        refine Runs.rseq ?_
        refine RO.opv (v' := .d (.bool true)) (opv_move rfl) rfl ?_
        refine RO.opv (v' := .d (.bool true)) (opv_move rfl) rfl ?_
        refine RO.opgv (v' := .d (encL _)) rfl (opv_move rfl) rfl ?_
        refine RO.opgv (v' := .d (.bool true)) rfl (opv_nenil rfl rfl rfl) rfl ?_
        refine RO.opv (v' := .d (.bool true)) (opv_pick rfl rfl) rfl ?_
        refine RO.opv (v' := .d (.bool true)) (opv_assign rfl) rfl ?_
        refine RO.nil ?_
        refine Runs.ret ?_
        refine thenQ_ret ?_
        refine EndQ.tmp (.inr rfl) rfl rfl 0 (by exact Nat.le_refl _) (by exact Nat.zero_le _) trivial ⟨?_, rfl⟩
        first
          | rfl
          | (refine bool_eq ?_; simp [he]; done)
          | (refine bool_eq ?_
             have hT2 : (newB (C k) (ts ++ [more])).1 = some (parsesT (C k) ts ++ parsesT (C k) [more]) := by
               rcases newB_cases (C k) (ts ++ [more]) with ⟨_, _, m1, _⟩ | ⟨_, _, hx⟩
               · rw [m1, parsesT_app]
               · exact absurd hf hx
             have hlv2 := parsesT_level hk (ts ++ [more])
             rw [parsesT_app] at hlv2
             have hwd2 : (acceptB (C k) (newB (C k) (ts ++ [more])).1 gs 0).1 = true := by simpa using hwd
             rw [hT2] at hwd2
             rw [hT]
             exact accept_clause hk h1k hlv2 gs 0 hwd2)
      · try simp only [decide_eq_true_eq, decide_eq_false_iff_not, beq_iff_eq, beq_eq_false_iff_ne, bne_iff_ne, bne_eq_false_iff_eq, Int.not_lt, Int.not_le, ne_eq, Bool.not_eq_true', Bool.not_eq_false', gt_iff_lt, ge_iff_le] at h3
        refine RO.nil ?_
        refine Runs.condF rfl ?_
        refine Runs.skip ?_
        refine thenQ_normal ?_
        refine Runs.has [(1, .d (.list (encs _))), (2, .d (.list (encs _))), (7, .ref 0 0), (8, .d (.bool false)), (9, .d (.bool true)), (11, .d (encL _))] ⟨rfl, rfl, rfl, rfl, rfl, rfl, trivial⟩ ?_
        refine Runs.rseq ?_
        refine RO.opv (v' := .d (encL _)) (opv_move rfl) rfl ?_
        refine RO.opv (v' := .d (.list (encs _))) (opv_move rfl) rfl ?_
        refine RO.opv (opv_callF (dnew_fn (C k) (C_ok hk) ts (by omega)) rfl rfl rfl ⟨trivial, trivial, trivial, trivial⟩) rfl ?_
        refine RO.opv (opv_move rfl) rfl ?_
        refine RO.opv (v' := .d (encOB _ _)) (opv_extract rfl rfl) rfl ?_
        refine RO.opv (v' := .d (.int _ _)) (opv_extract rfl rfl) rfl ?_
        refine RO.opv (v' := .d (.int _ _)) (opv_extract rfl rfl) rfl ?_
        refine RO.opv (v' := .d (encOB _ _)) (opv_assign rfl) rfl ?_
        refine RO.opv (v' := .d (.int _ _)) (opv_assign rfl) rfl ?_
        refine RO.opv (v' := .d (.int _ _)) (opv_assign rfl) rfl ?_
        refine RO.nil ?_
        refine Runs.has [(1, .d (.list (encs _))), (2, .d (.list (encs _))), (7, .ref 0 0), (8, .d (.bool false)), (9, .d (.bool true)), (11, .d (encL _)), (13, .d (encOB _ _)), (15, .d (.int _ _))] ⟨rfl, rfl, rfl, rfl, rfl, rfl, rfl, rfl, trivial⟩ ?_
        refine Runs.seq ?_
        refine Runs.drawn (by kernel_rfl) [0] [true, false, false, false, true, true, false, false, false, false, false, false, false, false, false] [false, false, false, true, false, false, true, false, false, false, false, false, false, false, false] (by decide +kernel) ?_
        refine RD.opa (v' := .d (encL _)) (fun O' hkeep => opv_move rfl) rfl ?_
        refine RD.opv (v' := .nil0) (opv_buildSlice0 rfl) rfl ?_
        refine RD.opv (v' := .d (.list (encs _))) (opv_move rfl) rfl ?_
        refine RD.opn (v' := .own 1 _) (O' := [_, _]) (opv_append_terms0 rfl rfl (by omega)) rfl rfl ⟨rfl, trivial⟩ ?_
        refine RD.opa (v' := .d (enc _)) (fun O' hkeep => opv_load_term rfl (hkeep.1.trans rfl) rfl) rfl ?_
        refine RD.opa (v' := .d (.list (encs _))) (fun O' hkeep => opv_bs_term1 rfl ) rfl ?_
        refine RD.opn (v' := .d (.list (encs _))) (O' := [_, _]) (OpV.shut (opv_append_terms rfl rfl rfl (by simp; omega)) rfl) rfl rfl ⟨rfl, trivial⟩ ?_
        refine RD.opv (opv_callF (dnew_fn (C k) (C_ok hk) (ts ++ [more]) (by omega)) rfl rfl rfl ⟨trivial, trivial, trivial, trivial⟩) rfl ?_
        refine RD.opv (opv_move rfl) rfl ?_
        refine RD.opv (v' := .d (encOB _ _)) (opv_extract rfl rfl) rfl ?_
        refine RD.opv (v' := .d (.int _ _)) (opv_extract rfl rfl) rfl ?_
        refine RD.opv (v' := .d (.int _ _)) (opv_extract rfl rfl) rfl ?_
        refine RD.opv (v' := .d (encOB _ _)) (opv_assign rfl) rfl ?_
        refine RD.opv (v' := .d (.int _ _)) (opv_assign rfl) rfl ?_
        refine RD.opv (v' := .d (.int _ _)) (opv_assign rfl) rfl ?_
        refine RD.nil ?_
        refine thenQ_normal ?_
        refine Runs.has [(2, .d (.list (encs _))), (7, .ref 0 0), (8, .d (.bool false)), (9, .d (.bool true)), (11, .d (encL _)), (13, .d (encOB _ _)), (15, .d (.int _ _)), (16, .d (encOB _ _)), (18, .d (.int _ _))] ⟨rfl, rfl, rfl, rfl, rfl, rfl, rfl, rfl, rfl, trivial⟩ ?_
        refine Runs.seq ?_
        refine Runs.rseq ?_
        refine RO.opv (v' := .d (.int _ _)) (opv_move rfl) rfl ?_
        refine RO.opv (v' := .d (.bool _)) (opv_bin rfl rfl rfl) rfl ?_
        refine RO.opc (opv_move rfl) (fun h4 => ?_) (fun h4 => ?_)
        · try simp only [decide_eq_true_eq, decide_eq_false_iff_not, beq_iff_eq, beq_eq_false_iff_ne, bne_iff_ne, bne_eq_false_iff_eq, Int.not_lt, Int.not_le, ne_eq, Bool.not_eq_true', Bool.not_eq_false', gt_iff_lt, ge_iff_le] at h4
          have he := h4
          refine RO.off rfl ?_
          refine RO.off rfl ?_
          refine RO.opv (v' := .d (.bool true)) (opv_pick rfl rfl) rfl ?_
          refine RO.nil ?_
          refine Runs.condT rfl ?_
          refine Runs.has [(2, .d (.list (encs _))), (7, .ref 0 0), (8, .d (.bool false)), (9, .d (.bool true)), (11, .d (encL _)), (13, .d (encOB _ _)), (15, .d (.int _ _)), (16, .d (encOB _ _)), (18, .d (.int _ _))] ⟨rfl, rfl, rfl, rfl, rfl, rfl, rfl, rfl, rfl, trivial⟩ ?_
          refine Runs.rseq ?_
          refine RO.opv (v' := .d (.bool true)) (opv_move rfl) rfl ?_
          refine RO.opv (v' := .d (.bool true)) (opv_move rfl) rfl ?_
          refine RO.opgv (v' := .d (.int _ _)) rfl (opv_move rfl) rfl ?_
          refine RO.opgv (v' := .d (.bool _)) rfl (opv_bin rfl rfl rfl) rfl ?_
          refine RO.opv (v' := .d (.bool _)) (opv_pick rfl rfl) rfl ?_
          refine RO.opv (v' := .d (.bool _)) (opv_assign rfl) rfl ?_
          refine RO.nil ?_
          refine Runs.ret ?_
          refine thenQ_ret ?_
          refine EndQ.tmp (.inr rfl) rfl rfl 0 (by exact Nat.le_refl _) (by exact Nat.zero_le _) trivial ⟨?_, rfl⟩
          first
            | rfl
            | (refine bool_eq ?_; simp [he]; done)
            | (refine bool_eq ?_
               have hT2 : (newB (C k) (ts ++ [more])).1 = some (parsesT (C k) ts ++ parsesT (C k) [more]) := by
                 rcases newB_cases (C k) (ts ++ [more]) with ⟨_, _, m1, _⟩ | ⟨_, _, hx⟩
                 · rw [m1, parsesT_app]
                 · exact absurd hf hx
               have hlv2 := parsesT_level hk (ts ++ [more])
               rw [parsesT_app] at hlv2
               have hwd2 : (acceptB (C k) (newB (C k) (ts ++ [more])).1 gs 0).1 = true := by simpa using hwd
               rw [hT2] at hwd2
               rw [hT]
               exact accept_clause hk h1k hlv2 gs 0 hwd2)
        · try simp only [decide_eq_true_eq, decide_eq_false_iff_not, beq_iff_eq, beq_eq_false_iff_ne, bne_iff_ne, bne_eq_false_iff_eq, Int.not_lt, Int.not_le, ne_eq, Bool.not_eq_true', Bool.not_eq_false', gt_iff_lt, ge_iff_le] at h4
          have he : (newB (C k) ts).2.2 = 0 := h4
          refine RO.opgv (v' := .d (encOB _ _)) rfl (opv_move rfl) rfl ?_
          refine RO.opgv (v' := .d (.bool _)) rfl (opv_eqnil_ob rfl rfl) rfl ?_
          refine RO.opc (opv_pick rfl rfl) (fun h5 => ?_) (fun h5 => ?_)
          · try simp only [decide_eq_true_eq, decide_eq_false_iff_not, beq_iff_eq, beq_eq_false_iff_ne, bne_iff_ne, bne_eq_false_iff_eq, Int.not_lt, Int.not_le, ne_eq, Bool.not_eq_true', Bool.not_eq_false', gt_iff_lt, ge_iff_le] at h5
            skip
            have hT : (newB (C k) ts).1 = some (parsesT (C k) ts) := by
              rcases newB_cases (C k) ts with ⟨_, _, m1, _⟩ | ⟨_, _, hx⟩
              · exact m1
              · exact absurd he hx
            rw [hT] at h5; cases h5
          · try simp only [decide_eq_true_eq, decide_eq_false_iff_not, beq_iff_eq, beq_eq_false_iff_ne, bne_iff_ne, bne_eq_false_iff_eq, Int.not_lt, Int.not_le, ne_eq, Bool.not_eq_true', Bool.not_eq_false', gt_iff_lt, ge_iff_le] at h5
            have hT : (newB (C k) ts).1 = some (parsesT (C k) ts) := by
              rcases newB_cases (C k) ts with ⟨_, _, m1, _⟩ | ⟨_, _, hx⟩
              · exact m1
              · exact absurd he hx
            have hlv := parsesT_level hk ts
            refine RO.nil ?_
            refine Runs.condF rfl ?_
            refine Runs.skip ?_
            refine thenQ_normal ?_
            refine Runs.has [(2, .d (.list (encs _))), (7, .ref 0 0), (8, .d (.bool false)), (9, .d (.bool true)), (11, .d (encL _)), (13, .d (encOB _ _)), (16, .d (encOB _ _)), (18, .d (.int _ _))] ⟨rfl, rfl, rfl, rfl, rfl, rfl, rfl, rfl, trivial⟩ ?_
            refine Runs.rseq ?_
            refine RO.opv (v' := .d (encL _)) (opv_move rfl) rfl ?_
            refine RO.opv (v' := .d (encOB _ _)) (opv_move rfl) rfl ?_
            refine RO.opv (v' := .d (.list (encs _))) (opv_move rfl) rfl ?_
            refine RO.opv (opv_callF (accept_fn (C k) (C_ok hk) (newB (C k) ts).1 gs 0 (newB_all_len _ _) (newB_small (by omega)) (by omega)) rfl rfl rfl ⟨trivial, trivial, trivial⟩) rfl ?_
            refine RO.opv (opv_move rfl) rfl ?_
            refine RO.opv (v' := .d (.bool _)) (opv_extract rfl rfl) rfl ?_
            refine RO.opv (v' := .d (.str _)) (opv_extract rfl rfl) rfl ?_
            refine RO.opv (v' := .d (.bool _)) (opv_assign rfl) rfl ?_
            refine RO.opv (v' := .d (.str _)) (opv_assign rfl) rfl ?_
            refine RO.nil ?_
            refine Runs.has [(2, .d (.list (encs _))), (7, .ref 0 0), (8, .d (.bool false)), (9, .d (.bool true)), (11, .d (encL _)), (13, .d (encOB _ _)), (16, .d (encOB _ _)), (18, .d (.int _ _)), (19, .d (.bool _))] ⟨rfl, rfl, rfl, rfl, rfl, rfl, rfl, rfl, rfl, trivial⟩ ?_
            refine Runs.seq ?_
            refine Runs.drawn (by kernel_rfl) [0] [true, true, false, false, false, true, true, false, false, false, false, false, false, false] [false, false, false, false, true, false, false, true, false, false, false, false, false, false] (by decide +kernel) ?_
            refine RD.opa (v' := .d (encL _)) (fun O' hkeep => opv_move rfl) rfl ?_
            refine RD.opa (v' := .d (encOB _ _)) (fun O' hkeep => opv_move rfl) rfl ?_
            refine RD.opv (v' := .nil0) (opv_buildSlice0 rfl) rfl ?_
            refine RD.opv (v' := .d (.list (encs _))) (opv_move rfl) rfl ?_
            refine RD.opn (v' := .own 2 _) (O' := [_, _, _]) (opv_append_terms0 rfl rfl (by omega)) rfl rfl ⟨rfl, trivial⟩ ?_
            refine RD.opa (v' := .d (enc _)) (fun O' hkeep => opv_load_term rfl (hkeep.1.trans rfl) rfl) rfl ?_
            refine RD.opa (v' := .d (.list (encs _))) (fun O' hkeep => opv_bs_term1 rfl ) rfl ?_
            refine RD.opn (v' := .d (.list (encs _))) (O' := [_, _, _]) (OpV.shut (opv_append_terms rfl rfl rfl (by simp; omega)) rfl) rfl rfl ⟨rfl, trivial⟩ ?_
            refine RD.opv (opv_callF (accept_fn (C k) (C_ok hk) (newB (C k) ts).1 (gs ++ [more]) 0 (newB_all_len _ _) (newB_small (by omega)) (by omega)) rfl rfl rfl ⟨trivial, trivial, trivial⟩) rfl ?_
            refine RD.opv (opv_move rfl) rfl ?_
            refine RD.opv (v' := .d (.bool _)) (opv_extract rfl rfl) rfl ?_
            refine RD.opv (v' := .d (.str _)) (opv_extract rfl rfl) rfl ?_
            refine RD.opv (v' := .d (.bool _)) (opv_assign rfl) rfl ?_
            refine RD.opv (v' := .d (.str _)) (opv_assign rfl) rfl ?_
            refine RD.nil ?_
            refine thenQ_normal ?_
            refine Runs.has [(2, .d (.list (encs _))), (8, .d (.bool false)), (9, .d (.bool true)), (11, .d (encL _)), (16, .d (encOB _ _)), (18, .d (.int _ _)), (19, .d (.bool _)), (21, .d (.bool _))] ⟨rfl, rfl, rfl, rfl, rfl, rfl, rfl, rfl, trivial⟩ ?_
            refine Runs.rseq ?_
            refine RO.opv (v' := .d (encL _)) (opv_move rfl) rfl ?_
            refine RO.opv (opv_callZ (accept_fn (C k) (C_ok hk) none [] 0 (Nat.zero_le _) (fun c hc => by cases hc) (Nat.zero_le _)) rfl rfl rfl ⟨trivial, trivial, trivial⟩) rfl ?_
            refine RO.opv (opv_move rfl) rfl ?_
            refine RO.opv (v' := .d (.bool _)) (opv_extract rfl rfl) rfl ?_
            refine RO.opv (v' := .d (.str _)) (opv_extract rfl rfl) rfl ?_
            refine RO.opv (v' := .d (.bool _)) (opv_assign rfl) rfl ?_
            refine RO.opv (v' := .d (.str _)) (opv_assign rfl) rfl ?_
            refine RO.nil ?_
            refine Runs.has [(2, .d (.list (encs _))), (8, .d (.bool false)), (9, .d (.bool true)), (11, .d (encL _)), (16, .d (encOB _ _)), (18, .d (.int _ _)), (19, .d (.bool _)), (21, .d (.bool _)), (23, .d (.bool _))] ⟨rfl, rfl, rfl, rfl, rfl, rfl, rfl, rfl, rfl, trivial⟩ ?_
            refine Runs.seq ?_
            refine Runs.rseq ?_
            refine RO.opv (v' := .d (.bool _)) (opv_move rfl) rfl ?_
            refine RO.opc (opv_move rfl) (fun h6 => ?_) (fun h6 => ?_)
            · try simp only [decide_eq_true_eq, decide_eq_false_iff_not, beq_iff_eq, beq_eq_false_iff_ne, bne_iff_ne, bne_eq_false_iff_eq, Int.not_lt, Int.not_le, ne_eq, Bool.not_eq_true', Bool.not_eq_false', gt_iff_lt, ge_iff_le] at h6
              have hw := h6
              refine RO.opgv (v' := .d (.bool _)) rfl (opv_move rfl) rfl ?_
              refine RO.opgv (v' := .d (.bool _)) rfl (opv_not rfl rfl) rfl ?_
              refine RO.opv (v' := .d (.bool _)) (opv_pick rfl rfl) rfl ?_
              refine RO.opc (opv_move rfl) (fun h7 => ?_) (fun h7 => ?_)
              · try simp only [decide_eq_true_eq, decide_eq_false_iff_not, beq_iff_eq, beq_eq_false_iff_ne, bne_iff_ne, bne_eq_false_iff_eq, Int.not_lt, Int.not_le, ne_eq, Bool.not_eq_true', Bool.not_eq_false', gt_iff_lt, ge_iff_le] at h7
                rw [hT] at hw h7
                rw [accept_more hk h1k hlv gs more 0 hw] at h7; cases h7
              · try simp only [decide_eq_true_eq, decide_eq_false_iff_not, beq_iff_eq, beq_eq_false_iff_ne, bne_iff_ne, bne_eq_false_iff_eq, Int.not_lt, Int.not_le, ne_eq, Bool.not_eq_true', Bool.not_eq_false', gt_iff_lt, ge_iff_le] at h7
                refine RO.opgv (v' := .d (.bool _)) rfl (opv_move rfl) rfl ?_
                refine RO.opgv (v' := .d (.bool _)) rfl (opv_not rfl rfl) rfl ?_
                refine RO.opc (opv_pick rfl rfl) (fun h8 => ?_) (fun h8 => ?_)
                · try simp only [decide_eq_true_eq, decide_eq_false_iff_not, beq_iff_eq, beq_eq_false_iff_ne, bne_iff_ne, bne_eq_false_iff_eq, Int.not_lt, Int.not_le, ne_eq, Bool.not_eq_true', Bool.not_eq_false', gt_iff_lt, ge_iff_le] at h8
                  rw [accept_nothing hk h1k 0] at h8; cases h8
                · try simp only [decide_eq_true_eq, decide_eq_false_iff_not, beq_iff_eq, beq_eq_false_iff_ne, bne_iff_ne, bne_eq_false_iff_eq, Int.not_lt, Int.not_le, ne_eq, Bool.not_eq_true', Bool.not_eq_false', gt_iff_lt, ge_iff_le] at h8
                  refine RO.nil ?_
                  refine Runs.condF rfl ?_
                  refine Runs.skip ?_
                  refine thenQ_normal ?_
                  refine Runs.has [(2, .d (.list (encs _))), (8, .d (.bool false)), (9, .d (.bool true)), (11, .d (encL _)), (16, .d (encOB _ _)), (18, .d (.int _ _)), (19, .d (.bool _))] ⟨rfl, rfl, rfl, rfl, rfl, rfl, rfl, trivial⟩ ?_
                  refine Runs.seq ?_
                  refine Runs.rseq ?_
                  refine RO.opv (v' := .d (.int _ _)) (opv_move rfl) rfl ?_
                  refine RO.opc (opv_bin rfl rfl rfl) (fun h9 => ?_) (fun h9 => ?_)
                  · try simp only [decide_eq_true_eq, decide_eq_false_iff_not, beq_iff_eq, beq_eq_false_iff_ne, bne_iff_ne, bne_eq_false_iff_eq, Int.not_lt, Int.not_le, ne_eq, Bool.not_eq_true', Bool.not_eq_false', gt_iff_lt, ge_iff_le] at h9
                    skip
                    refine RO.nil ?_
                    refine Runs.condT rfl ?_
                    refine Runs.has [(2, .d (.list (encs _))), (8, .d (.bool false)), (9, .d (.bool true)), (11, .d (encL _)), (16, .d (encOB _ _)), (19, .d (.bool _))] ⟨rfl, rfl, rfl, rfl, rfl, rfl, trivial⟩ ?_
                    refine Runs.rseq ?_
                    refine RO.opv (v' := .d (.bool true)) (opv_move rfl) rfl ?_
                    refine RO.opv (v' := .d (.bool true)) (opv_assign rfl) rfl ?_
                    refine RO.nil ?_
                    refine Runs.ret ?_
                    refine thenQ_ret ?_
                    refine EndQ.tmp (.inr rfl) rfl rfl 0 (by exact Nat.le_refl _) (by exact Nat.zero_le _) trivial ⟨?_, rfl⟩
                    first
                      | rfl
                      | (refine bool_eq ?_; simp [he]; done)
                      | (refine bool_eq ?_
                         have hT2 : (newB (C k) (ts ++ [more])).1 = some (parsesT (C k) ts ++ parsesT (C k) [more]) := by
                           rcases newB_cases (C k) (ts ++ [more]) with ⟨_, _, m1, _⟩ | ⟨_, _, hx⟩
                           · rw [m1, parsesT_app]
                           · exact absurd hf hx
                         have hlv2 := parsesT_level hk (ts ++ [more])
                         rw [parsesT_app] at hlv2
                         have hwd2 : (acceptB (C k) (newB (C k) (ts ++ [more])).1 gs 0).1 = true := by simpa using hwd
                         rw [hT2] at hwd2
                         rw [hT]
                         exact accept_clause hk h1k hlv2 gs 0 hwd2)
                  · try simp only [decide_eq_true_eq, decide_eq_false_iff_not, beq_iff_eq, beq_eq_false_iff_ne, bne_iff_ne, bne_eq_false_iff_eq, Int.not_lt, Int.not_le, ne_eq, Bool.not_eq_true', Bool.not_eq_false', gt_iff_lt, ge_iff_le] at h9
                    have hf : (newB (C k) (ts ++ [more])).2.2 = 0 := by omega
                    refine RO.nil ?_
                    refine Runs.condF rfl ?_
                    refine Runs.skip ?_
                    refine thenQ_normal ?_
                    refine Runs.has [(2, .d (.list (encs _))), (8, .d (.bool false)), (9, .d (.bool true)), (11, .d (encL _)), (16, .d (encOB _ _)), (19, .d (.bool _))] ⟨rfl, rfl, rfl, rfl, rfl, rfl, trivial⟩ ?_
                    refine Runs.rseq ?_
                    refine RO.opv (v' := .d (encL _)) (opv_move rfl) rfl ?_
                    refine RO.opv (v' := .d (encOB _ _)) (opv_move rfl) rfl ?_
                    refine RO.opv (v' := .d (.list (encs _))) (opv_move rfl) rfl ?_
                    refine RO.opv (opv_callF (accept_fn (C k) (C_ok hk) (newB (C k) (ts ++ [more])).1 gs 0 (newB_all_len _ _) (newB_small (by omega)) (by omega)) rfl rfl rfl ⟨trivial, trivial, trivial⟩) rfl ?_
                    refine RO.opv (opv_move rfl) rfl ?_
                    refine RO.opv (v' := .d (.bool _)) (opv_extract rfl rfl) rfl ?_
                    refine RO.opv (v' := .d (.str _)) (opv_extract rfl rfl) rfl ?_
                    refine RO.opv (v' := .d (.bool _)) (opv_assign rfl) rfl ?_
                    refine RO.opv (v' := .d (.str _)) (opv_assign rfl) rfl ?_
                    refine RO.nil ?_
                    refine Runs.has [(8, .d (.bool false)), (9, .d (.bool true)), (19, .d (.bool _)), (25, .d (.bool _))] ⟨rfl, rfl, rfl, rfl, trivial⟩ ?_
                    refine Runs.rseq ?_
                    refine RO.opv (v' := .d (.bool true)) (opv_move rfl) rfl ?_
                    refine RO.opv (v' := .d (.bool true)) (opv_move rfl) rfl ?_
                    refine RO.opgv (v' := .d (.bool _)) rfl (opv_move rfl) rfl ?_
                    refine RO.opgv (v' := .d (.bool _)) rfl (opv_not rfl rfl) rfl ?_
                    refine RO.opgc rfl (opv_move rfl) (fun h10 => ?_) (fun h10 => ?_)
                    · try simp only [decide_eq_true_eq, decide_eq_false_iff_not, beq_iff_eq, beq_eq_false_iff_ne, bne_iff_ne, bne_eq_false_iff_eq, Int.not_lt, Int.not_le, ne_eq, Bool.not_eq_true', Bool.not_eq_false', gt_iff_lt, ge_iff_le] at h10
                      have hwd := h10
                      refine RO.off rfl ?_
                      refine RO.opgv (v' := .d (.bool true)) rfl (opv_pick rfl rfl) rfl ?_
                      refine RO.opv (v' := .d (.bool true)) (opv_pick rfl rfl) rfl ?_
                      refine RO.opv (v' := .d (.bool true)) (opv_assign rfl) rfl ?_
                      refine RO.nil ?_
                      refine Runs.ret ?_
                      refine EndQ.tmp (.inr rfl) rfl rfl 0 (by exact Nat.le_refl _) (by exact Nat.zero_le _) trivial ⟨?_, rfl⟩
                      first
                        | rfl
                        | (refine bool_eq ?_; simp [he]; done)
                        | (refine bool_eq ?_
                           have hT2 : (newB (C k) (ts ++ [more])).1 = some (parsesT (C k) ts ++ parsesT (C k) [more]) := by
                             rcases newB_cases (C k) (ts ++ [more]) with ⟨_, _, m1, _⟩ | ⟨_, _, hx⟩
                             · rw [m1, parsesT_app]
                             · exact absurd hf hx
                           have hlv2 := parsesT_level hk (ts ++ [more])
                           rw [parsesT_app] at hlv2
                           have hwd2 : (acceptB (C k) (newB (C k) (ts ++ [more])).1 gs 0).1 = true := by simpa using hwd
                           rw [hT2] at hwd2
                           rw [hT]
                           exact accept_clause hk h1k hlv2 gs 0 hwd2)
                    · try simp only [decide_eq_true_eq, decide_eq_false_iff_not, beq_iff_eq, beq_eq_false_iff_ne, bne_iff_ne, bne_eq_false_iff_eq, Int.not_lt, Int.not_le, ne_eq, Bool.not_eq_true', Bool.not_eq_false', gt_iff_lt, ge_iff_le] at h10
                      have hwd := h10
                      refine RO.opgv (v' := .d (.bool _)) rfl (opv_move rfl) rfl ?_
                      refine RO.opgv (v' := .d (.bool _)) rfl (opv_pick rfl rfl) rfl ?_
                      refine RO.opv (v' := .d (.bool _)) (opv_pick rfl rfl) rfl ?_
                      refine RO.opv (v' := .d (.bool _)) (opv_assign rfl) rfl ?_
                      refine RO.nil ?_
                      refine Runs.ret ?_
                      refine EndQ.tmp (.inr rfl) rfl rfl 0 (by exact Nat.le_refl _) (by exact Nat.zero_le _) trivial ⟨?_, rfl⟩
                      first
                        | rfl
                        | (refine bool_eq ?_; simp [he]; done)
                        | (refine bool_eq ?_
                           have hT2 : (newB (C k) (ts ++ [more])).1 = some (parsesT (C k) ts ++ parsesT (C k) [more]) := by
                             rcases newB_cases (C k) (ts ++ [more]) with ⟨_, _, m1, _⟩ | ⟨_, _, hx⟩
                             · rw [m1, parsesT_app]
                             · exact absurd hf hx
                           have hlv2 := parsesT_level hk (ts ++ [more])
                           rw [parsesT_app] at hlv2
                           have hwd2 : (acceptB (C k) (newB (C k) (ts ++ [more])).1 gs 0).1 = true := by simpa using hwd
                           rw [hT2] at hwd2
                           rw [hT]
                           exact accept_clause hk h1k hlv2 gs 0 hwd2)
            · try simp only [decide_eq_true_eq, decide_eq_false_iff_not, beq_iff_eq, beq_eq_false_iff_ne, bne_iff_ne, bne_eq_false_iff_eq, Int.not_lt, Int.not_le, ne_eq, Bool.not_eq_true', Bool.not_eq_false', gt_iff_lt, ge_iff_le] at h6
              have hw := h6
              refine RO.off rfl ?_
              refine RO.off rfl ?_
              refine RO.opv (v' := .d (.bool false)) (opv_pick rfl rfl) rfl ?_
              refine RO.opv (v' := .d (.bool false)) (opv_move rfl) rfl ?_
              refine RO.opgv (v' := .d (.bool _)) rfl (opv_move rfl) rfl ?_
              refine RO.opgv (v' := .d (.bool _)) rfl (opv_not rfl rfl) rfl ?_
              refine RO.opc (opv_pick rfl rfl) (fun h11 => ?_) (fun h11 => ?_)
              · try simp only [decide_eq_true_eq, decide_eq_false_iff_not, beq_iff_eq, beq_eq_false_iff_ne, bne_iff_ne, bne_eq_false_iff_eq, Int.not_lt, Int.not_le, ne_eq, Bool.not_eq_true', Bool.not_eq_false', gt_iff_lt, ge_iff_le] at h11
                rw [accept_nothing hk h1k 0] at h11; cases h11
              · try simp only [decide_eq_true_eq, decide_eq_false_iff_not, beq_iff_eq, beq_eq_false_iff_ne, bne_iff_ne, bne_eq_false_iff_eq, Int.not_lt, Int.not_le, ne_eq, Bool.not_eq_true', Bool.not_eq_false', gt_iff_lt, ge_iff_le] at h11
                refine RO.nil ?_
                refine Runs.condF rfl ?_
                refine Runs.skip ?_
                refine thenQ_normal ?_
                refine Runs.has [(2, .d (.list (encs _))), (8, .d (.bool false)), (9, .d (.bool true)), (11, .d (encL _)), (16, .d (encOB _ _)), (18, .d (.int _ _)), (19, .d (.bool _))] ⟨rfl, rfl, rfl, rfl, rfl, rfl, rfl, trivial⟩ ?_
                refine Runs.seq ?_
                refine Runs.rseq ?_
                refine RO.opv (v' := .d (.int _ _)) (opv_move rfl) rfl ?_
                refine RO.opc (opv_bin rfl rfl rfl) (fun h12 => ?_) (fun h12 => ?_)
                · try simp only [decide_eq_true_eq, decide_eq_false_iff_not, beq_iff_eq, beq_eq_false_iff_ne, bne_iff_ne, bne_eq_false_iff_eq, Int.not_lt, Int.not_le, ne_eq, Bool.not_eq_true', Bool.not_eq_false', gt_iff_lt, ge_iff_le] at h12
                  skip
                  refine RO.nil ?_
                  refine Runs.condT rfl ?_
                  refine Runs.has [(2, .d (.list (encs _))), (8, .d (.bool false)), (9, .d (.bool true)), (11, .d (encL _)), (16, .d (encOB _ _)), (19, .d (.bool _))] ⟨rfl, rfl, rfl, rfl, rfl, rfl, trivial⟩ ?_
                  refine Runs.rseq ?_
                  refine RO.opv (v' := .d (.bool true)) (opv_move rfl) rfl ?_
                  refine RO.opv (v' := .d (.bool true)) (opv_assign rfl) rfl ?_
                  refine RO.nil ?_
                  refine Runs.ret ?_
                  refine thenQ_ret ?_
                  refine EndQ.tmp (.inr rfl) rfl rfl 0 (by exact Nat.le_refl _) (by exact Nat.zero_le _) trivial ⟨?_, rfl⟩
                  first
                    | rfl
                    | (refine bool_eq ?_; simp [he]; done)
                    | (refine bool_eq ?_
                       have hT2 : (newB (C k) (ts ++ [more])).1 = some (parsesT (C k) ts ++ parsesT (C k) [more]) := by
                         rcases newB_cases (C k) (ts ++ [more]) with ⟨_, _, m1, _⟩ | ⟨_, _, hx⟩
                         · rw [m1, parsesT_app]
                         · exact absurd hf hx
                       have hlv2 := parsesT_level hk (ts ++ [more])
                       rw [parsesT_app] at hlv2
                       have hwd2 : (acceptB (C k) (newB (C k) (ts ++ [more])).1 gs 0).1 = true := by simpa using hwd
                       rw [hT2] at hwd2
                       rw [hT]
                       exact accept_clause hk h1k hlv2 gs 0 hwd2)
                · try simp only [decide_eq_true_eq, decide_eq_false_iff_not, beq_iff_eq, beq_eq_false_iff_ne, bne_iff_ne, bne_eq_false_iff_eq, Int.not_lt, Int.not_le, ne_eq, Bool.not_eq_true', Bool.not_eq_false', gt_iff_lt, ge_iff_le] at h12
                  have hf : (newB (C k) (ts ++ [more])).2.2 = 0 := by omega
                  refine RO.nil ?_
                  refine Runs.condF rfl ?_
                  refine Runs.skip ?_
                  refine thenQ_normal ?_
                  refine Runs.has [(2, .d (.list (encs _))), (8, .d (.bool false)), (9, .d (.bool true)), (11, .d (encL _)), (16, .d (encOB _ _)), (19, .d (.bool _))] ⟨rfl, rfl, rfl, rfl, rfl, rfl, trivial⟩ ?_
                  refine Runs.rseq ?_
                  refine RO.opv (v' := .d (encL _)) (opv_move rfl) rfl ?_
                  refine RO.opv (v' := .d (encOB _ _)) (opv_move rfl) rfl ?_
                  refine RO.opv (v' := .d (.list (encs _))) (opv_move rfl) rfl ?_
                  refine RO.opv (opv_callF (accept_fn (C k) (C_ok hk) (newB (C k) (ts ++ [more])).1 gs 0 (newB_all_len _ _) (newB_small (by omega)) (by omega)) rfl rfl rfl ⟨trivial, trivial, trivial⟩) rfl ?_
                  refine RO.opv (opv_move rfl) rfl ?_
                  refine RO.opv (v' := .d (.bool _)) (opv_extract rfl rfl) rfl ?_
                  refine RO.opv (v' := .d (.str _)) (opv_extract rfl rfl) rfl ?_
                  refine RO.opv (v' := .d (.bool _)) (opv_assign rfl) rfl ?_
                  refine RO.opv (v' := .d (.str _)) (opv_assign rfl) rfl ?_
                  refine RO.nil ?_
                  refine Runs.has [(8, .d (.bool false)), (9, .d (.bool true)), (19, .d (.bool _)), (25, .d (.bool _))] ⟨rfl, rfl, rfl, rfl, trivial⟩ ?_
                  refine Runs.rseq ?_
                  refine RO.opv (v' := .d (.bool true)) (opv_move rfl) rfl ?_
                  refine RO.opv (v' := .d (.bool true)) (opv_move rfl) rfl ?_
                  refine RO.opgv (v' := .d (.bool _)) rfl (opv_move rfl) rfl ?_
                  refine RO.opgv (v' := .d (.bool _)) rfl (opv_not rfl rfl) rfl ?_
                  refine RO.opgc rfl (opv_move rfl) (fun h13 => ?_) (fun h13 => ?_)
                  · try simp only [decide_eq_true_eq, decide_eq_false_iff_not, beq_iff_eq, beq_eq_false_iff_ne, bne_iff_ne, bne_eq_false_iff_eq, Int.not_lt, Int.not_le, ne_eq, Bool.not_eq_true', Bool.not_eq_false', gt_iff_lt, ge_iff_le] at h13
                    have hwd := h13
                    refine RO.off rfl ?_
                    refine RO.opgv (v' := .d (.bool true)) rfl (opv_pick rfl rfl) rfl ?_
                    refine RO.opv (v' := .d (.bool true)) (opv_pick rfl rfl) rfl ?_
                    refine RO.opv (v' := .d (.bool true)) (opv_assign rfl) rfl ?_
                    refine RO.nil ?_
                    refine Runs.ret ?_
                    refine EndQ.tmp (.inr rfl) rfl rfl 0 (by exact Nat.le_refl _) (by exact Nat.zero_le _) trivial ⟨?_, rfl⟩
                    first
                      | rfl
                      | (refine bool_eq ?_; simp [he]; done)
                      | (refine bool_eq ?_
                         have hT2 : (newB (C k) (ts ++ [more])).1 = some (parsesT (C k) ts ++ parsesT (C k) [more]) := by
                           rcases newB_cases (C k) (ts ++ [more]) with ⟨_, _, m1, _⟩ | ⟨_, _, hx⟩
                           · rw [m1, parsesT_app]
                           · exact absurd hf hx
                         have hlv2 := parsesT_level hk (ts ++ [more])
                         rw [parsesT_app] at hlv2
                         have hwd2 : (acceptB (C k) (newB (C k) (ts ++ [more])).1 gs 0).1 = true := by simpa using hwd
                         rw [hT2] at hwd2
                         rw [hT]
                         exact accept_clause hk h1k hlv2 gs 0 hwd2)
                  · try simp only [decide_eq_true_eq, decide_eq_false_iff_not, beq_iff_eq, beq_eq_false_iff_ne, bne_iff_ne, bne_eq_false_iff_eq, Int.not_lt, Int.not_le, ne_eq, Bool.not_eq_true', Bool.not_eq_false', gt_iff_lt, ge_iff_le] at h13
                    have hwd := h13
                    refine RO.opgv (v' := .d (.bool _)) rfl (opv_move rfl) rfl ?_
                    refine RO.opgv (v' := .d (.bool _)) rfl (opv_pick rfl rfl) rfl ?_
                    refine RO.opv (v' := .d (.bool _)) (opv_pick rfl rfl) rfl ?_
                    refine RO.opv (v' := .d (.bool _)) (opv_assign rfl) rfl ?_
                    refine RO.nil ?_
                    refine Runs.ret ?_
                    refine EndQ.tmp (.inr rfl) rfl rfl 0 (by exact Nat.le_refl _) (by exact Nat.zero_le _) trivial ⟨?_, rfl⟩
                    first
                      | rfl
                      | (refine bool_eq ?_; simp [he]; done)
                      | (refine bool_eq ?_
                         have hT2 : (newB (C k) (ts ++ [more])).1 = some (parsesT (C k) ts ++ parsesT (C k) [more]) := by
                           rcases newB_cases (C k) (ts ++ [more]) with ⟨_, _, m1, _⟩ | ⟨_, _, hx⟩
                           · rw [m1, parsesT_app]
                           · exact absurd hf hx
                         have hlv2 := parsesT_level hk (ts ++ [more])
                         rw [parsesT_app] at hlv2
                         have hwd2 : (acceptB (C k) (newB (C k) (ts ++ [more])).1 gs 0).1 = true := by simpa using hwd
                         rw [hT2] at hwd2
                         rw [hT]
                         exact accept_clause hk h1k hlv2 gs 0 hwd2)
end Go.Proofs.Ytohncglpjiplaaa.AM
