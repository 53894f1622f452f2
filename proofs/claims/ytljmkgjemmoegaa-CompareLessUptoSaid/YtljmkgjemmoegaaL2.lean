import Derived.Test.YtljmkgjemmoegaaL0
namespace Go.Proofs.Ytljmkgjemmoegaa.AM
open Go
set_option linter.unusedVariables false
set_option linter.unusedSimpArgs false
theorem compareLess_fn (n : Int) (ts : List Term) (a b : Int) (g1 : 0 ≤ n) (g1' : n ≤ 255) (g2 : bulks ts ≤ 2 ^ 20) (_g2' : fitss ts) (g3 : 0 ≤ a) (g3' : a ≤ 255) (g4 : 0 ≤ b) (g4' : b ≤ 255) : Fn Try.prog 5 [.d (.int .u8 n), .d (.list (encs ts)), .d (.int .u8 a), .d (.int .u8 b)] [] (.d (.bool true)) [] := by
  obtain ⟨k, hkn⟩ : ∃ k : Nat, (k : Int) = n.tmod 16 := ⟨(n.tmod 16).toNat, by rw [Int.tmod_eq_emod_of_nonneg g1]; omega⟩
  have hk : k < 16 := by rw [Int.tmod_eq_emod_of_nonneg g1] at hkn; omega
  have hn := C_n hk
  have hrem : n.tmod 16 = (k : Int) := hkn.symm
  obtain ⟨x, x0⟩ : ∃ x : Int, a.tmod ((k + 1 : Nat) : Int) = x := ⟨_, rfl⟩
  have x1 : 0 ≤ x ∧ x ≤ (k : Nat) := by rw [Int.tmod_eq_emod_of_nonneg g3] at x0; have := Int.emod_nonneg a (show ((k + 1 : Nat) : Int) ≠ 0 by omega); have := Int.emod_lt_of_pos a (show (0 : Int) < ((k + 1 : Nat) : Int) by omega); omega
  obtain ⟨y, y0⟩ : ∃ x : Int, b.tmod ((k + 1 : Nat) : Int) = x := ⟨_, rfl⟩
  have y1 : 0 ≤ y ∧ y ≤ (k : Nat) := by rw [Int.tmod_eq_emod_of_nonneg g4] at y0; have := Int.emod_nonneg b (show ((k + 1 : Nat) : Int) ≠ 0 by omega); have := Int.emod_lt_of_pos b (show (0 : Int) < ((k + 1 : Nat) : Int) by omega); omega
  have hL := bulks_len ts
  have hmm := low_mono hk (x := min x y) (y := max x y) (by omega) (by omega) (by omega) ts
  have hml := low_len (C k) (max x y) ts
  refine Does.run Try.func5 rfl Try.ntmps5 rfl fun K hK => ?_
  refine Runs.rseq ?_
  refine RO.opv (v' := .d (.bool false)) (opv_assign rfl) rfl ?_
  refine RO.nil ?_
  refine Runs.rseq ?_
  refine RO.opv (v' := .d (.bool true)) (opv_callF (shown_fn) rfl rfl rfl trivial) rfl ?_
  refine RO.opv (v' := .d (.bool true)) (opv_assign rfl) rfl ?_
  refine RO.nil ?_
  refine Runs.has [(0, .d (.int _ _)), (1, .d (.list (encs _))), (2, .d (.int _ _)), (3, .d (.int _ _)), (8, .d (.bool false)), (9, .d (.bool true))] ⟨rfl, rfl, rfl, rfl, rfl, rfl, trivial⟩ ?_
  refine Runs.rseq ?_
  refine RO.opv (v' := .d (.int _ _)) (opv_move rfl) rfl ?_
  refine RO.opv (v' := .d (.int _ _)) (opv_arith (r := (k : Int)) rfl rfl (by simp only [binD, if_true]; rw [if_neg (by decide), hrem])) rfl ?_
  refine RO.opv (v' := .d (.int _ _)) (opv_conv (r := (k : Int)) rfl (wrap64 (by omega) (by omega))) rfl ?_
  refine RO.opv (v' := .d (.int _ _)) (opv_arith (r := ((k + 1 : Nat) : Int)) rfl rfl (by simp only [binD, if_true]; rw [wrap64 (by omega) (by omega)]; congr 2; omega)) rfl ?_
  refine RO.opv (v' := .d (.int _ _)) (opv_assign rfl) rfl ?_
  refine RO.nil ?_
  refine Runs.has [(1, .d (.list (encs _))), (2, .d (.int _ _)), (3, .d (.int _ _)), (8, .d (.bool false)), (9, .d (.bool true)), (10, .d (.int _ _))] ⟨rfl, rfl, rfl, rfl, rfl, rfl, trivial⟩ ?_
  refine Runs.rseq ?_
  refine RO.opv (v' := .d (.int _ _)) (opv_move rfl) rfl ?_
  refine RO.opv (v' := .d (.int _ _)) (opv_move rfl) rfl ?_
  refine RO.opv (v' := .d (.list (encPs _))) (opv_callF (chainp_fn k hk) rfl rfl rfl trivial) rfl ?_
  refine RO.opv (opv_callF (lnewC_fn k hk) rfl rfl rfl ⟨trivial, trivial, trivial⟩) rfl ?_
  refine RO.opv (opv_move rfl) rfl ?_
  refine RO.opv (v' := .d (encL _)) (opv_extract rfl rfl) rfl ?_
  refine RO.opv (v' := .d (.int _ _)) (opv_extract rfl rfl) rfl ?_
  refine RO.opv (v' := .d (encL _)) (opv_assign rfl) rfl ?_
  refine RO.opv (v' := .d (.int _ _)) (opv_assign rfl) rfl ?_
  refine RO.nil ?_
  refine Runs.has [(1, .d (.list (encs _))), (2, .d (.int _ _)), (3, .d (.int _ _)), (8, .d (.bool false)), (9, .d (.bool true)), (10, .d (.int _ _)), (11, .d (encL _))] ⟨rfl, rfl, rfl, rfl, rfl, rfl, rfl, trivial⟩ ?_
  refine Runs.seq ?_
  refine Runs.rseq ?_
  refine RO.opv (v' := .d (encL _)) (opv_move rfl) rfl ?_
  refine RO.opv (v' := .d (.bool false)) (opv_eqnil rfl rfl rfl) rfl ?_
  refine RO.opv (v' := .d (.bool false)) (opv_move rfl) rfl ?_
  refine RO.opgv (v' := .d (.list (encs _))) rfl (opv_move rfl) rfl ?_
  refine RO.opgv (v' := .d (.bool _)) rfl (opv_callF (few_fn ts (by omega)) rfl rfl rfl trivial) rfl ?_
  refine RO.opgv (v' := .d (.bool _)) rfl (opv_not rfl rfl) rfl ?_
  refine RO.opc (opv_pick rfl rfl) (fun h1 => ?_) (fun h1 => ?_)
  · try simp only [decide_eq_true_eq, decide_eq_false_iff_not, beq_iff_eq, beq_eq_false_iff_ne, bne_iff_ne, bne_eq_false_iff_eq, Int.not_lt, Int.not_le, ne_eq, Bool.not_eq_true', Bool.not_eq_false', gt_iff_lt, ge_iff_le] at h1
    refine RO.nil ?_
    refine Runs.condT rfl ?_
    refine Runs.has [(1, .d (.list (encs _))), (2, .d (.int _ _)), (3, .d (.int _ _)), (8, .d (.bool false)), (9, .d (.bool true)), (10, .d (.int _ _)), (11, .d (encL _))] ⟨rfl, rfl, rfl, rfl, rfl, rfl, rfl, trivial⟩ ?_
    refine Runs.rseq ?_
    refine RO.opv (v' := .d (.bool true)) (opv_move rfl) rfl ?_
    refine RO.opv (v' := .d (.bool true)) (opv_move rfl) rfl ?_
    refine RO.opgv (v' := .d (encL _)) rfl (opv_move rfl) rfl ?_
    refine RO.opgv (v' := .d (.bool true)) rfl (opv_nenil rfl rfl rfl) rfl ?_
    refine RO.opv (v' := .d (.bool true)) (opv_pick rfl rfl) rfl ?_
    refine RO.opv (v' := .d (.bool true)) (opv_assign rfl) rfl ?_
    refine RO.nil ?_
    refine Runs.ret ?_
    refine thenQ_ret ?_
    refine EndQ.tmp (.inr rfl) rfl rfl 0 (by exact Nat.le_refl _) (by exact Nat.zero_le _) trivial ⟨?_, rfl⟩
    rfl
  · try simp only [decide_eq_true_eq, decide_eq_false_iff_not, beq_iff_eq, beq_eq_false_iff_ne, bne_iff_ne, bne_eq_false_iff_eq, Int.not_lt, Int.not_le, ne_eq, Bool.not_eq_true', Bool.not_eq_false', gt_iff_lt, ge_iff_le] at h1
    refine RO.nil ?_
    refine Runs.condF rfl ?_
    refine Runs.skip ?_
    refine thenQ_normal ?_
    refine Runs.has [(1, .d (.list (encs _))), (2, .d (.int _ _)), (3, .d (.int _ _)), (8, .d (.bool false)), (9, .d (.bool true)), (10, .d (.int _ _)), (11, .d (encL _))] ⟨rfl, rfl, rfl, rfl, rfl, rfl, rfl, trivial⟩ ?_
    refine Runs.seq ?_
    refine Runs.drawn (by kernel_rfl) [] [false, false, false, false, false, false, false, false, false, false] [false, false, false, false, false, false, false, false, false, false] (by decide +kernel) ?_
    refine RD.opv (v' := .d (.int _ _)) (opv_move rfl) rfl ?_
    refine RD.opv (v' := .d (.int _ _)) (opv_conv (r := a) rfl (wrap64 (by omega) (by omega))) rfl ?_
    refine RD.opv (v' := .d (.int _ _)) (opv_move rfl) rfl ?_
    refine RD.opv (v' := .d (.int _ _)) (opv_arith (r := x) rfl rfl (by simp only [binD, if_true]; rw [if_neg (by omega), x0])) rfl ?_
    refine RD.opv (v' := .d (.int _ _)) (opv_move rfl) rfl ?_
    refine RD.opv (v' := .d (.int _ _)) (opv_conv (r := b) rfl (wrap64 (by omega) (by omega))) rfl ?_
    refine RD.opv (v' := .d (.int _ _)) (opv_move rfl) rfl ?_
    refine RD.opv (v' := .d (.int _ _)) (opv_arith (r := y) rfl rfl (by simp only [binD, if_true]; rw [if_neg (by omega), y0])) rfl ?_
    refine RD.opv (v' := .d (.int _ _)) (opv_min (r := min x y) rfl rfl (by split <;> omega)) rfl ?_
    refine RD.opv (v' := .d (.int _ _)) (opv_assign rfl) rfl ?_
    refine RD.nil ?_
    refine thenQ_normal ?_
    refine Runs.has [(1, .d (.list (encs _))), (2, .d (.int _ _)), (3, .d (.int _ _)), (8, .d (.bool false)), (9, .d (.bool true)), (10, .d (.int _ _)), (11, .d (encL _)), (13, .d (.int _ _))] ⟨rfl, rfl, rfl, rfl, rfl, rfl, rfl, rfl, trivial⟩ ?_
    refine Runs.seq ?_
    refine Runs.drawn (by kernel_rfl) [] [false, false, false, false, false, false, false, false, false, false] [false, false, false, false, false, false, false, false, false, false] (by decide +kernel) ?_
    refine RD.opv (v' := .d (.int _ _)) (opv_move rfl) rfl ?_
    refine RD.opv (v' := .d (.int _ _)) (opv_conv (r := a) rfl (wrap64 (by omega) (by omega))) rfl ?_
    refine RD.opv (v' := .d (.int _ _)) (opv_move rfl) rfl ?_
    refine RD.opv (v' := .d (.int _ _)) (opv_arith (r := x) rfl rfl (by simp only [binD, if_true]; rw [if_neg (by omega), x0])) rfl ?_
    refine RD.opv (v' := .d (.int _ _)) (opv_move rfl) rfl ?_
    refine RD.opv (v' := .d (.int _ _)) (opv_conv (r := b) rfl (wrap64 (by omega) (by omega))) rfl ?_
    refine RD.opv (v' := .d (.int _ _)) (opv_move rfl) rfl ?_
    refine RD.opv (v' := .d (.int _ _)) (opv_arith (r := y) rfl rfl (by simp only [binD, if_true]; rw [if_neg (by omega), y0])) rfl ?_
    refine RD.opv (v' := .d (.int _ _)) (opv_max (r := max x y) rfl rfl (by split <;> omega)) rfl ?_
    refine RD.opv (v' := .d (.int _ _)) (opv_assign rfl) rfl ?_
    refine RD.nil ?_
    refine thenQ_normal ?_
    refine Runs.has [(1, .d (.list (encs _))), (8, .d (.bool false)), (9, .d (.bool true)), (11, .d (encL _)), (13, .d (.int _ _)), (14, .d (.int _ _))] ⟨rfl, rfl, rfl, rfl, rfl, rfl, trivial⟩ ?_
    refine Runs.rseq ?_
    refine RO.opv (v' := .d (.bool true)) (opv_move rfl) rfl ?_
    refine RO.opv (v' := .d (.bool true)) (opv_move rfl) rfl ?_
    refine RO.opgv (v' := .d (encL _)) rfl (opv_move rfl) rfl ?_
    refine RO.opgv (v' := .d (.list (encs _))) rfl (opv_move rfl) rfl ?_
    refine RO.opgv (v' := .d (.int _ _)) rfl (opv_move rfl) rfl ?_
    refine RO.opgv (v' := .d (.list (encs _))) rfl (opv_callF (low_fn (C k) (C_ok hk) ts (min x y) (by omega)) rfl rfl rfl trivial) rfl ?_
    refine RO.opgv (v' := .d (.int _ _)) rfl (opv_len_terms rfl) rfl ?_
    refine RO.opgv (v' := .d (encL _)) rfl (opv_move rfl) rfl ?_
    refine RO.opgv (v' := .d (.list (encs _))) rfl (opv_move rfl) rfl ?_
    refine RO.opgv (v' := .d (.int _ _)) rfl (opv_move rfl) rfl ?_
    refine RO.opgv (v' := .d (.list (encs _))) rfl (opv_callF (low_fn (C k) (C_ok hk) ts (max x y) (by omega)) rfl rfl rfl trivial) rfl ?_
    refine RO.opgv (v' := .d (.int _ _)) rfl (opv_len_terms rfl) rfl ?_
    refine RO.opgv (v' := .d (.bool _)) rfl (opv_bin rfl rfl rfl) rfl ?_
    refine RO.opv (v' := .d (.bool _)) (opv_pick rfl rfl) rfl ?_
    refine RO.opc (opv_move rfl) (fun h2 => ?_) (fun h2 => ?_)
    · try simp only [decide_eq_true_eq, decide_eq_false_iff_not, beq_iff_eq, beq_eq_false_iff_ne, bne_iff_ne, bne_eq_false_iff_eq, Int.not_lt, Int.not_le, ne_eq, Bool.not_eq_true', Bool.not_eq_false', gt_iff_lt, ge_iff_le] at h2
      refine RO.opgv (v' := .d (encL _)) rfl (opv_move rfl) rfl ?_
      refine RO.opgv (v' := .d (.list (encs _))) rfl (opv_move rfl) rfl ?_
      refine RO.opgv (v' := .d (.int _ _)) rfl (opv_move rfl) rfl ?_
      refine RO.opgv (v' := .d (.list (encs _))) rfl (opv_callF (low_fn (C k) (C_ok hk) ts (max x y) (by omega)) rfl rfl rfl trivial) rfl ?_
      refine RO.opgv (v' := .d (.int _ _)) rfl (opv_len_terms rfl) rfl ?_
      refine RO.opgv (v' := .d (.list (encs _))) rfl (opv_move rfl) rfl ?_
      refine RO.opgv (v' := .d (.int _ _)) rfl (opv_len_terms rfl) rfl ?_
      refine RO.opgv (v' := .d (.bool _)) rfl (opv_bin rfl rfl rfl) rfl ?_
      refine RO.opv (v' := .d (.bool _)) (opv_pick rfl rfl) rfl ?_
      refine RO.opv (v' := .d (.bool _)) (opv_assign rfl) rfl ?_
      refine RO.nil ?_
      refine Runs.ret ?_
      refine EndQ.tmp (.inr rfl) rfl rfl 0 (by exact Nat.le_refl _) (by exact Nat.zero_le _) trivial ⟨?_, rfl⟩
      refine bool_eq ?_; simp; omega
    · try simp only [decide_eq_true_eq, decide_eq_false_iff_not, beq_iff_eq, beq_eq_false_iff_ne, bne_iff_ne, bne_eq_false_iff_eq, Int.not_lt, Int.not_le, ne_eq, Bool.not_eq_true', Bool.not_eq_false', gt_iff_lt, ge_iff_le] at h2
      omega
end Go.Proofs.Ytljmkgjemmoegaa.AM
