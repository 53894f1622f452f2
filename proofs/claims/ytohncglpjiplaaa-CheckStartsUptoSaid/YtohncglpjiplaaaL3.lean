import Derived.Test.YtohncglpjiplaaaL0
namespace Go.Proofs.Ytohncglpjiplaaa.AM
open Go
set_option linter.unusedVariables false
set_option linter.unusedSimpArgs false
theorem checkStarts_fn (n : Int) (ts gs : List Term) (a b : Int) (g1 : 0 ≤ n) (g1' : n ≤ 255) (g2 : bulks ts ≤ 2 ^ 20) (_g2' : fitss ts) (g3 : bulks gs ≤ 2 ^ 20) (_g3' : fitss gs) (g4 : 0 ≤ a) (g4' : a ≤ 255) (g5 : 0 ≤ b) (g5' : b ≤ 255) : Fn Try.prog 6 [.d (.int .u8 n), .d (.list (encs ts)), .d (.list (encs gs)), .d (.int .u8 a), .d (.int .u8 b)] [] (.d (.bool true)) [] := by
  obtain ⟨j, hjn⟩ : ∃ j : Nat, (j : Int) = n.tmod 7 := ⟨(n.tmod 7).toNat, by rw [Int.tmod_eq_emod_of_nonneg g1]; omega⟩
  have hj : j < 7 := by rw [Int.tmod_eq_emod_of_nonneg g1] at hjn; omega
  have hrem : n.tmod 7 = (j : Int) := hjn.symm
  obtain ⟨k, hkj⟩ : ∃ k, k = j + 1 := ⟨_, rfl⟩
  have hk : k < 16 := by omega
  have h1k : 1 ≤ k := by omega
  have hn := C_n hk
  obtain ⟨x, x0⟩ : ∃ x : Int, a.tmod ((k + 1 : Nat) : Int) = x := ⟨_, rfl⟩
  have x1 : 0 ≤ x ∧ x ≤ (k : Nat) := by rw [Int.tmod_eq_emod_of_nonneg g4] at x0; have := Int.emod_nonneg a (show ((k + 1 : Nat) : Int) ≠ 0 by omega); have := Int.emod_lt_of_pos a (show (0 : Int) < ((k + 1 : Nat) : Int) by omega); omega
  obtain ⟨y, y0⟩ : ∃ x : Int, b.tmod ((k + 1 : Nat) : Int) = x := ⟨_, rfl⟩
  have y1 : 0 ≤ y ∧ y ≤ (k : Nat) := by rw [Int.tmod_eq_emod_of_nonneg g5] at y0; have := Int.emod_nonneg b (show ((k + 1 : Nat) : Int) ≠ 0 by omega); have := Int.emod_lt_of_pos b (show (0 : Int) < ((k + 1 : Nat) : Int) by omega); omega
  have hL := bulks_len ts
  have hLg := bulks_len gs
  refine Does.run Try.func6 rfl Try.ntmps6 rfl fun K hK => ?_
  refine Runs.rseq ?_
  refine RO.opv (v' := .d (.bool false)) (opv_assign rfl) rfl ?_
  refine RO.nil ?_
  refine Runs.rseq ?_
  refine RO.opv (v' := .d (.bool true)) (opv_callF (shown_fn) rfl rfl rfl trivial) rfl ?_
  refine RO.opv (v' := .d (.bool true)) (opv_assign rfl) rfl ?_
  refine RO.nil ?_
  refine Runs.has [(0, .d (.int _ _)), (1, .d (.list (encs _))), (2, .d (.list (encs _))), (3, .d (.int _ _)), (4, .d (.int _ _)), (10, .d (.bool false)), (11, .d (.bool true))] ⟨rfl, rfl, rfl, rfl, rfl, rfl, rfl, trivial⟩ ?_
  refine Runs.rseq ?_
  refine RO.opv (v' := .d (.int _ _)) (opv_move rfl) rfl ?_
  refine RO.opv (v' := .d (.int _ _)) (opv_arith (r := (j : Int)) rfl rfl (by simp only [binD, if_true]; rw [if_neg (by decide), hrem])) rfl ?_
  refine RO.opv (v' := .d (.int _ _)) (opv_conv (r := (j : Int)) rfl (wrap64 (by omega) (by omega))) rfl ?_
  refine RO.opv (v' := .d (.int _ _)) (opv_arith (r := ((k + 1 : Nat) : Int)) rfl rfl (by simp only [binD, if_true]; rw [wrap64 (by omega) (by omega)]; congr 2; omega)) rfl ?_
  refine RO.opv (v' := .d (.int _ _)) (opv_assign rfl) rfl ?_
  refine RO.nil ?_
  refine Runs.has [(1, .d (.list (encs _))), (2, .d (.list (encs _))), (3, .d (.int _ _)), (4, .d (.int _ _)), (10, .d (.bool false)), (11, .d (.bool true)), (12, .d (.int _ _))] ⟨rfl, rfl, rfl, rfl, rfl, rfl, rfl, trivial⟩ ?_
  refine Runs.rseq ?_
  refine RO.opv (v' := .d (.int _ _)) (opv_move rfl) rfl ?_
  refine RO.opv (v' := .d (.int _ _)) (opv_move rfl) rfl ?_
  refine RO.opv (v' := .d (.list (encPs _))) (opv_callF (chainp_fn k hk) rfl rfl rfl trivial) rfl ?_
  refine RO.opv (opv_callF (lnewC_fn k hk) rfl rfl rfl ⟨trivial, trivial, trivial⟩) rfl ?_
  refine RO.opv (opv_move rfl) rfl ?_
  refine RO.opv (v' := .d (encL _)) (opv_extract rfl rfl) rfl ?_
  refine RO.opv (v' := .d (.int _ _)) (opv_extract rfl rfl) rfl ?_
  refine RO.opv (v' := .d (encL _)) (opv_assign rfl) rfl ?_
  refine RO.opv (v' := .d (.int _ _)) (opv_assign rfl) rfl ?_
  refine RO.nil ?_
  refine Runs.has [(1, .d (.list (encs _))), (2, .d (.list (encs _))), (3, .d (.int _ _)), (4, .d (.int _ _)), (10, .d (.bool false)), (11, .d (.bool true)), (12, .d (.int _ _)), (13, .d (encL _))] ⟨rfl, rfl, rfl, rfl, rfl, rfl, rfl, rfl, trivial⟩ ?_
  refine Runs.seq ?_
  refine Runs.rseq ?_
  refine RO.opv (v' := .d (encL _)) (opv_move rfl) rfl ?_
  refine RO.opv (v' := .d (.bool false)) (opv_eqnil rfl rfl rfl) rfl ?_
  refine RO.opv (v' := .d (.bool false)) (opv_move rfl) rfl ?_
  refine RO.opgv (v' := .d (.list (encs _))) rfl (opv_move rfl) rfl ?_
  refine RO.opgv (v' := .d (.bool _)) rfl (opv_callF (few_fn ts (by omega)) rfl rfl rfl trivial) rfl ?_
  refine RO.opgv (v' := .d (.bool _)) rfl (opv_not rfl rfl) rfl ?_
  refine RO.opv (v' := .d (.bool _)) (opv_pick rfl rfl) rfl ?_
  refine RO.opc (opv_move rfl) (fun h1 => ?_) (fun h1 => ?_)
  · try simp only [decide_eq_true_eq, decide_eq_false_iff_not, beq_iff_eq, beq_eq_false_iff_ne, bne_iff_ne, bne_eq_false_iff_eq, Int.not_lt, Int.not_le, ne_eq, Bool.not_eq_true', Bool.not_eq_false', gt_iff_lt, ge_iff_le] at h1
    refine RO.off rfl ?_
    refine RO.off rfl ?_
    refine RO.off rfl ?_
    refine RO.opv (v' := .d (.bool true)) (opv_pick rfl rfl) rfl ?_
    refine RO.nil ?_
    refine Runs.condT rfl ?_
    refine Runs.has [(1, .d (.list (encs _))), (2, .d (.list (encs _))), (3, .d (.int _ _)), (4, .d (.int _ _)), (10, .d (.bool false)), (11, .d (.bool true)), (12, .d (.int _ _)), (13, .d (encL _))] ⟨rfl, rfl, rfl, rfl, rfl, rfl, rfl, rfl, trivial⟩ ?_
    refine Runs.rseq ?_
    refine RO.opv (v' := .d (.bool true)) (opv_move rfl) rfl ?_
    refine RO.opv (v' := .d (.bool true)) (opv_move rfl) rfl ?_
    refine RO.opgv (v' := .d (encL _)) rfl (opv_move rfl) rfl ?_
    refine RO.opgv (v' := .d (.bool true)) rfl (opv_nenil rfl rfl rfl) rfl ?_
    refine RO.opv (v' := .d (.bool true)) (opv_pick rfl rfl) rfl ?_
    refine RO.opv (v' := .d (.bool true)) (opv_assign rfl) rfl ?_
    refine RO.nil ?_
    refine Runs.ret ?_
    refine thenQ_ret ?_
    refine EndQ.tmp (.inr rfl) rfl rfl 0 (by exact Nat.le_refl _) (by exact Nat.zero_le _) trivial ⟨?_, rfl⟩
    first
      | rfl
      | (refine bool_eq ?_; simp [he]; done)
      | (refine bool_eq ?_
         have hwd2 : (acceptB (C k) (newB (C k) ts).1 gs (max x y)).1 = true := by simpa using hwd
         rw [hT] at hwd2 ⊢
         exact accept_level hk h1k hlv gs (by omega) (by omega) (by omega) hwd2)
  · try simp only [decide_eq_true_eq, decide_eq_false_iff_not, beq_iff_eq, beq_eq_false_iff_ne, bne_iff_ne, bne_eq_false_iff_eq, Int.not_lt, Int.not_le, ne_eq, Bool.not_eq_true', Bool.not_eq_false', gt_iff_lt, ge_iff_le] at h1
    refine RO.opgv (v' := .d (.list (encs _))) rfl (opv_move rfl) rfl ?_
    refine RO.opgv (v' := .d (.bool _)) rfl (opv_callF (few_fn gs (by omega)) rfl rfl rfl trivial) rfl ?_
    refine RO.opgv (v' := .d (.bool _)) rfl (opv_not rfl rfl) rfl ?_
    refine RO.opc (opv_pick rfl rfl) (fun h2 => ?_) (fun h2 => ?_)
    · try simp only [decide_eq_true_eq, decide_eq_false_iff_not, beq_iff_eq, beq_eq_false_iff_ne, bne_iff_ne, bne_eq_false_iff_eq, Int.not_lt, Int.not_le, ne_eq, Bool.not_eq_true', Bool.not_eq_false', gt_iff_lt, ge_iff_le] at h2
      refine RO.nil ?_
      refine Runs.condT rfl ?_
      refine Runs.has [(1, .d (.list (encs _))), (2, .d (.list (encs _))), (3, .d (.int _ _)), (4, .d (.int _ _)), (10, .d (.bool false)), (11, .d (.bool true)), (12, .d (.int _ _)), (13, .d (encL _))] ⟨rfl, rfl, rfl, rfl, rfl, rfl, rfl, rfl, trivial⟩ ?_
      refine Runs.rseq ?_
      refine RO.opv (v' := .d (.bool true)) (opv_move rfl) rfl ?_
      refine RO.opv (v' := .d (.bool true)) (opv_move rfl) rfl ?_
      refine RO.opgv (v' := .d (encL _)) rfl (opv_move rfl) rfl ?_
      refine RO.opgv (v' := .d (.bool true)) rfl (opv_nenil rfl rfl rfl) rfl ?_
      refine RO.opv (v' := .d (.bool true)) (opv_pick rfl rfl) rfl ?_
      refine RO.opv (v' := .d (.bool true)) (opv_assign rfl) rfl ?_
      refine RO.nil ?_
      refine Runs.ret ?_
      refine thenQ_ret ?_
      refine EndQ.tmp (.inr rfl) rfl rfl 0 (by exact Nat.le_refl _) (by exact Nat.zero_le _) trivial ⟨?_, rfl⟩
      first
        | rfl
        | (refine bool_eq ?_; simp [he]; done)
        | (refine bool_eq ?_
           have hwd2 : (acceptB (C k) (newB (C k) ts).1 gs (max x y)).1 = true := by simpa using hwd
           rw [hT] at hwd2 ⊢
           exact accept_level hk h1k hlv gs (by omega) (by omega) (by omega) hwd2)
    · try simp only [decide_eq_true_eq, decide_eq_false_iff_not, beq_iff_eq, beq_eq_false_iff_ne, bne_iff_ne, bne_eq_false_iff_eq, Int.not_lt, Int.not_le, ne_eq, Bool.not_eq_true', Bool.not_eq_false', gt_iff_lt, ge_iff_le] at h2
      refine RO.nil ?_
      refine Runs.condF rfl ?_
      refine Runs.skip ?_
      refine thenQ_normal ?_
      refine Runs.has [(1, .d (.list (encs _))), (2, .d (.list (encs _))), (3, .d (.int _ _)), (4, .d (.int _ _)), (10, .d (.bool false)), (11, .d (.bool true)), (12, .d (.int _ _)), (13, .d (encL _))] ⟨rfl, rfl, rfl, rfl, rfl, rfl, rfl, rfl, trivial⟩ ?_
      refine Runs.rseq ?_
      refine RO.opv (v' := .d (encL _)) (opv_move rfl) rfl ?_
      refine RO.opv (v' := .d (.list (encs _))) (opv_move rfl) rfl ?_
      refine RO.opv (opv_callF (dnew_fn (C k) (C_ok hk) ts (by omega)) rfl rfl rfl ⟨trivial, trivial, trivial, trivial⟩) rfl ?_
      refine RO.opv (opv_move rfl) rfl ?_
      refine RO.opv (v' := .d (encOB _ _)) (opv_extract rfl rfl) rfl ?_
      refine RO.opv (v' := .d (.int _ _)) (opv_extract rfl rfl) rfl ?_
      refine RO.opv (v' := .d (.int _ _)) (opv_extract rfl rfl) rfl ?_
      refine RO.opv (v' := .d (encOB _ _)) (opv_assign rfl) rfl ?_
      refine RO.opv (v' := .d (.int _ _)) (opv_assign rfl) rfl ?_
      refine RO.opv (v' := .d (.int _ _)) (opv_assign rfl) rfl ?_
      refine RO.nil ?_
      refine Runs.has [(2, .d (.list (encs _))), (3, .d (.int _ _)), (4, .d (.int _ _)), (10, .d (.bool false)), (11, .d (.bool true)), (12, .d (.int _ _)), (13, .d (encL _)), (15, .d (encOB _ _)), (17, .d (.int _ _))] ⟨rfl, rfl, rfl, rfl, rfl, rfl, rfl, rfl, rfl, trivial⟩ ?_
      refine Runs.seq ?_
      refine Runs.rseq ?_
      refine RO.opv (v' := .d (.int _ _)) (opv_move rfl) rfl ?_
      refine RO.opv (v' := .d (.bool _)) (opv_bin rfl rfl rfl) rfl ?_
      refine RO.opc (opv_move rfl) (fun h3 => ?_) (fun h3 => ?_)
      · try simp only [decide_eq_true_eq, decide_eq_false_iff_not, beq_iff_eq, beq_eq_false_iff_ne, bne_iff_ne, bne_eq_false_iff_eq, Int.not_lt, Int.not_le, ne_eq, Bool.not_eq_true', Bool.not_eq_false', gt_iff_lt, ge_iff_le] at h3
        have he := h3
        refine RO.off rfl ?_
        refine RO.off rfl ?_
        refine RO.opv (v' := .d (.bool true)) (opv_pick rfl rfl) rfl ?_
        refine RO.nil ?_
        refine Runs.condT rfl ?_
        refine Runs.has [(2, .d (.list (encs _))), (3, .d (.int _ _)), (4, .d (.int _ _)), (10, .d (.bool false)), (11, .d (.bool true)), (12, .d (.int _ _)), (13, .d (encL _)), (15, .d (encOB _ _)), (17, .d (.int _ _))] ⟨rfl, rfl, rfl, rfl, rfl, rfl, rfl, rfl, rfl, trivial⟩ ?_
        refine Runs.rseq ?_
        refine RO.opv (v' := .d (.bool true)) (opv_move rfl) rfl ?_
        refine RO.opv (v' := .d (.bool true)) (opv_move rfl) rfl ?_
        refine RO.opgv (v' := .d (.int _ _)) rfl (opv_move rfl) rfl ?_
        refine RO.opgv (v' := .d (.bool _)) rfl (opv_bin rfl rfl rfl) rfl ?_
        refine RO.opv (v' := .d (.bool _)) (opv_pick rfl rfl) rfl ?_
        refine RO.opv (v' := .d (.bool _)) (opv_assign rfl) rfl ?_
        refine RO.nil ?_
        refine Runs.ret ?_
        refine thenQ_ret ?_
        refine EndQ.tmp (.inr rfl) rfl rfl 0 (by exact Nat.le_refl _) (by exact Nat.zero_le _) trivial ⟨?_, rfl⟩
        first
          | rfl
          | (refine bool_eq ?_; simp [he]; done)
          | (refine bool_eq ?_
             have hwd2 : (acceptB (C k) (newB (C k) ts).1 gs (max x y)).1 = true := by simpa using hwd
             rw [hT] at hwd2 ⊢
             exact accept_level hk h1k hlv gs (by omega) (by omega) (by omega) hwd2)
      · try simp only [decide_eq_true_eq, decide_eq_false_iff_not, beq_iff_eq, beq_eq_false_iff_ne, bne_iff_ne, bne_eq_false_iff_eq, Int.not_lt, Int.not_le, ne_eq, Bool.not_eq_true', Bool.not_eq_false', gt_iff_lt, ge_iff_le] at h3
        have he : (newB (C k) ts).2.2 = 0 := h3
        refine RO.opgv (v' := .d (encOB _ _)) rfl (opv_move rfl) rfl ?_
        refine RO.opgv (v' := .d (.bool _)) rfl (opv_eqnil_ob rfl rfl) rfl ?_
        refine RO.opc (opv_pick rfl rfl) (fun h4 => ?_) (fun h4 => ?_)
        · try simp only [decide_eq_true_eq, decide_eq_false_iff_not, beq_iff_eq, beq_eq_false_iff_ne, bne_iff_ne, bne_eq_false_iff_eq, Int.not_lt, Int.not_le, ne_eq, Bool.not_eq_true', Bool.not_eq_false', gt_iff_lt, ge_iff_le] at h4
          skip
          have hT : (newB (C k) ts).1 = some (parsesT (C k) ts) := by
            rcases newB_cases (C k) ts with ⟨_, _, m1, _⟩ | ⟨_, _, hx⟩
            · exact m1
            · exact absurd he hx
          rw [hT] at h4; cases h4
        · try simp only [decide_eq_true_eq, decide_eq_false_iff_not, beq_iff_eq, beq_eq_false_iff_ne, bne_iff_ne, bne_eq_false_iff_eq, Int.not_lt, Int.not_le, ne_eq, Bool.not_eq_true', Bool.not_eq_false', gt_iff_lt, ge_iff_le] at h4
          have hT : (newB (C k) ts).1 = some (parsesT (C k) ts) := by
            rcases newB_cases (C k) ts with ⟨_, _, m1, _⟩ | ⟨_, _, hx⟩
            · exact m1
            · exact absurd he hx
          have hlv := parsesT_level hk ts
          refine RO.nil ?_
          refine Runs.condF rfl ?_
          refine Runs.skip ?_
          refine thenQ_normal ?_
          refine Runs.has [(2, .d (.list (encs _))), (3, .d (.int _ _)), (4, .d (.int _ _)), (10, .d (.bool false)), (11, .d (.bool true)), (12, .d (.int _ _)), (13, .d (encL _)), (15, .d (encOB _ _))] ⟨rfl, rfl, rfl, rfl, rfl, rfl, rfl, rfl, trivial⟩ ?_
          refine Runs.rseq ?_
          refine RO.opv (v' := .d (.int _ _)) (opv_move rfl) rfl ?_
          refine RO.opv (v' := .d (.int _ _)) (opv_conv (r := a) rfl (wrap64 (by omega) (by omega))) rfl ?_
          refine RO.opv (v' := .d (.int _ _)) (opv_move rfl) rfl ?_
          refine RO.opv (v' := .d (.int _ _)) (opv_arith (r := x) rfl rfl (by simp only [binD, if_true]; rw [if_neg (by omega), x0])) rfl ?_
          refine RO.opv (v' := .d (.int _ _)) (opv_assign rfl) rfl ?_
          refine RO.nil ?_
          refine Runs.has [(2, .d (.list (encs _))), (4, .d (.int _ _)), (10, .d (.bool false)), (11, .d (.bool true)), (12, .d (.int _ _)), (13, .d (encL _)), (15, .d (encOB _ _)), (18, .d (.int _ _))] ⟨rfl, rfl, rfl, rfl, rfl, rfl, rfl, rfl, trivial⟩ ?_
          refine Runs.rseq ?_
          refine RO.opv (v' := .d (.int _ _)) (opv_move rfl) rfl ?_
          refine RO.opv (v' := .d (.int _ _)) (opv_conv (r := b) rfl (wrap64 (by omega) (by omega))) rfl ?_
          refine RO.opv (v' := .d (.int _ _)) (opv_move rfl) rfl ?_
          refine RO.opv (v' := .d (.int _ _)) (opv_arith (r := y) rfl rfl (by simp only [binD, if_true]; rw [if_neg (by omega), y0])) rfl ?_
          refine RO.opv (v' := .d (.int _ _)) (opv_assign rfl) rfl ?_
          refine RO.nil ?_
          refine Runs.has [(2, .d (.list (encs _))), (10, .d (.bool false)), (11, .d (.bool true)), (13, .d (encL _)), (15, .d (encOB _ _)), (18, .d (.int _ _)), (19, .d (.int _ _))] ⟨rfl, rfl, rfl, rfl, rfl, rfl, rfl, trivial⟩ ?_
          refine Runs.rseq ?_
          refine RO.opv (v' := .d (encL _)) (opv_move rfl) rfl ?_
          refine RO.opv (v' := .d (encOB _ _)) (opv_move rfl) rfl ?_
          refine RO.opv (v' := .d (.list (encs _))) (opv_move rfl) rfl ?_
          refine RO.opv (v' := .d (.int _ _)) (opv_move rfl) rfl ?_
          refine RO.opv (v' := .d (.int _ _)) (opv_move rfl) rfl ?_
          refine RO.opv (v' := .d (.int _ _)) (opv_max (r := max x y) rfl rfl (by split <;> omega)) rfl ?_
          refine RO.opv (opv_callF (accept_fn (C k) (C_ok hk) (newB (C k) ts).1 gs (max x y) (newB_all_len _ _) (newB_small (by omega)) (by omega)) rfl rfl rfl ⟨trivial, trivial, trivial⟩) rfl ?_
          refine RO.opv (opv_move rfl) rfl ?_
          refine RO.opv (v' := .d (.bool _)) (opv_extract rfl rfl) rfl ?_
          refine RO.opv (v' := .d (.str _)) (opv_extract rfl rfl) rfl ?_
          refine RO.opv (v' := .d (.bool _)) (opv_assign rfl) rfl ?_
          refine RO.opv (v' := .d (.str _)) (opv_assign rfl) rfl ?_
          refine RO.nil ?_
          refine Runs.has [(2, .d (.list (encs _))), (10, .d (.bool false)), (11, .d (.bool true)), (13, .d (encL _)), (15, .d (encOB _ _)), (18, .d (.int _ _)), (19, .d (.int _ _)), (20, .d (.bool _))] ⟨rfl, rfl, rfl, rfl, rfl, rfl, rfl, rfl, trivial⟩ ?_
          refine Runs.rseq ?_
          refine RO.opv (v' := .d (encL _)) (opv_move rfl) rfl ?_
          refine RO.opv (v' := .d (encOB _ _)) (opv_move rfl) rfl ?_
          refine RO.opv (v' := .d (.list (encs _))) (opv_move rfl) rfl ?_
          refine RO.opv (v' := .d (.int _ _)) (opv_move rfl) rfl ?_
          refine RO.opv (v' := .d (.int _ _)) (opv_move rfl) rfl ?_
          refine RO.opv (v' := .d (.int _ _)) (opv_min (r := min x y) rfl rfl (by split <;> omega)) rfl ?_
          refine RO.opv (opv_callF (accept_fn (C k) (C_ok hk) (newB (C k) ts).1 gs (min x y) (newB_all_len _ _) (newB_small (by omega)) (by omega)) rfl rfl rfl ⟨trivial, trivial, trivial⟩) rfl ?_
          refine RO.opv (opv_move rfl) rfl ?_
          refine RO.opv (v' := .d (.bool _)) (opv_extract rfl rfl) rfl ?_
          refine RO.opv (v' := .d (.str _)) (opv_extract rfl rfl) rfl ?_
          refine RO.opv (v' := .d (.bool _)) (opv_assign rfl) rfl ?_
          refine RO.opv (v' := .d (.str _)) (opv_assign rfl) rfl ?_
          refine RO.nil ?_
          refine Runs.has [(10, .d (.bool false)), (11, .d (.bool true)), (20, .d (.bool _)), (22, .d (.bool _))] ⟨rfl, rfl, rfl, rfl, trivial⟩ ?_
          refine Runs.rseq ?_
          refine RO.opv (v' := .d (.bool true)) (opv_move rfl) rfl ?_
          refine RO.opv (v' := .d (.bool true)) (opv_move rfl) rfl ?_
          refine RO.opgv (v' := .d (.bool _)) rfl (opv_move rfl) rfl ?_
          refine RO.opgv (v' := .d (.bool _)) rfl (opv_not rfl rfl) rfl ?_
          refine RO.opgc rfl (opv_move rfl) (fun h5 => ?_) (fun h5 => ?_)
          · try simp only [decide_eq_true_eq, decide_eq_false_iff_not, beq_iff_eq, beq_eq_false_iff_ne, bne_iff_ne, bne_eq_false_iff_eq, Int.not_lt, Int.not_le, ne_eq, Bool.not_eq_true', Bool.not_eq_false', gt_iff_lt, ge_iff_le] at h5
            have hwd := h5
            refine RO.off rfl ?_
            refine RO.opgv (v' := .d (.bool true)) rfl (opv_pick rfl rfl) rfl ?_
            refine RO.opv (v' := .d (.bool true)) (opv_pick rfl rfl) rfl ?_
            refine RO.opv (v' := .d (.bool true)) (opv_assign rfl) rfl ?_
            refine RO.nil ?_
            refine Runs.ret ?_
            refine EndQ.tmp (.inr rfl) rfl rfl 0 (by exact Nat.le_refl _) (by exact Nat.zero_le _) trivial ⟨?_, rfl⟩
            first
              | rfl
              | (refine bool_eq ?_; simp [he]; done)
              | (refine bool_eq ?_
                 have hwd2 : (acceptB (C k) (newB (C k) ts).1 gs (max x y)).1 = true := by simpa using hwd
                 rw [hT] at hwd2 ⊢
                 exact accept_level hk h1k hlv gs (by omega) (by omega) (by omega) hwd2)
          · try simp only [decide_eq_true_eq, decide_eq_false_iff_not, beq_iff_eq, beq_eq_false_iff_ne, bne_iff_ne, bne_eq_false_iff_eq, Int.not_lt, Int.not_le, ne_eq, Bool.not_eq_true', Bool.not_eq_false', gt_iff_lt, ge_iff_le] at h5
            have hwd := h5
            refine RO.opgv (v' := .d (.bool _)) rfl (opv_move rfl) rfl ?_
            refine RO.opgv (v' := .d (.bool _)) rfl (opv_pick rfl rfl) rfl ?_
            refine RO.opv (v' := .d (.bool _)) (opv_pick rfl rfl) rfl ?_
            refine RO.opv (v' := .d (.bool _)) (opv_assign rfl) rfl ?_
            refine RO.nil ?_
            refine Runs.ret ?_
            refine EndQ.tmp (.inr rfl) rfl rfl 0 (by exact Nat.le_refl _) (by exact Nat.zero_le _) trivial ⟨?_, rfl⟩
            first
              | rfl
              | (refine bool_eq ?_; simp [he]; done)
              | (refine bool_eq ?_
                 have hwd2 : (acceptB (C k) (newB (C k) ts).1 gs (max x y)).1 = true := by simpa using hwd
                 rw [hT] at hwd2 ⊢
                 exact accept_level hk h1k hlv gs (by omega) (by omega) (by omega) hwd2)
end Go.Proofs.Ytohncglpjiplaaa.AM
