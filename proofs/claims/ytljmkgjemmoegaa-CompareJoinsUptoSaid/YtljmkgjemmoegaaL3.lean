import Derived.Test.YtljmkgjemmoegaaL0
namespace Go.Proofs.Ytljmkgjemmoegaa.AM
open Go
set_option linter.unusedVariables false
set_option linter.unusedSimpArgs false
theorem compareJoins_fn (n : Int) (a b : List Term) (c : Int) (g1 : 0 ≤ n) (g1' : n ≤ 255) (g2 : bulks a ≤ 2 ^ 20) (_g2' : fitss a) (g3 : bulks b ≤ 2 ^ 20) (_g3' : fitss b) (g4 : 0 ≤ c) (g4' : c ≤ 255) : Fn Try.prog 4 [.d (.int .u8 n), .d (.list (encs a)), .d (.list (encs b)), .d (.int .u8 c)] [] (.d (.bool true)) [] := by
  obtain ⟨k, hkn⟩ : ∃ k : Nat, (k : Int) = n.tmod 16 := ⟨(n.tmod 16).toNat, by rw [Int.tmod_eq_emod_of_nonneg g1]; omega⟩
  have hk : k < 16 := by rw [Int.tmod_eq_emod_of_nonneg g1] at hkn; omega
  have hn := C_n hk
  have hrem : n.tmod 16 = (k : Int) := hkn.symm
  obtain ⟨x, x0⟩ : ∃ x : Int, c.tmod ((k + 1 : Nat) : Int) = x := ⟨_, rfl⟩
  have x1 : 0 ≤ x ∧ x ≤ (k : Nat) := by rw [Int.tmod_eq_emod_of_nonneg g4] at x0; have := Int.emod_nonneg c (show ((k + 1 : Nat) : Int) ≠ 0 by omega); have := Int.emod_lt_of_pos c (show (0 : Int) < ((k + 1 : Nat) : Int) by omega); omega
  have hLa := bulks_len a
  have hLb := bulks_len b
  have hab := bulks_append a b
  have b1 := low_bulk (C k) x a
  have b2 := low_bulk (C k) x b
  have b3 := low_bulk (C k) x (a ++ b)
  have p1 := plain_bulk a
  have p2 := plain_bulk b
  have p3 := plain_bulk (a ++ b)
  have l1 := low_len (C k) x a
  have l2 := low_len (C k) x b
  have q1 := plain_len a
  have q2 := plain_len b
  refine Does.run Try.func4 rfl Try.ntmps4 rfl fun K hK => ?_
  refine Runs.rseq ?_
  refine RO.opv (v' := .d (.bool false)) (opv_assign rfl) rfl ?_
  refine RO.nil ?_
  refine Runs.rseq ?_
  refine RO.opv (v' := .d (.bool true)) (opv_callF (shown_fn) rfl rfl rfl trivial) rfl ?_
  refine RO.opv (v' := .d (.bool true)) (opv_assign rfl) rfl ?_
  refine RO.nil ?_
  refine Runs.has [(0, .d (.int _ _)), (1, .d (.list (encs _))), (2, .d (.list (encs _))), (3, .d (.int _ _)), (8, .d (.bool false)), (9, .d (.bool true))] ⟨rfl, rfl, rfl, rfl, rfl, rfl, trivial⟩ ?_
  refine Runs.rseq ?_
  refine RO.opv (v' := .d (.int _ _)) (opv_move rfl) rfl ?_
  refine RO.opv (v' := .d (.int _ _)) (opv_arith (r := (k : Int)) rfl rfl (by simp only [binD, if_true]; rw [if_neg (by decide), hrem])) rfl ?_
  refine RO.opv (v' := .d (.int _ _)) (opv_conv (r := (k : Int)) rfl (wrap64 (by omega) (by omega))) rfl ?_
  refine RO.opv (v' := .d (.int _ _)) (opv_arith (r := ((k + 1 : Nat) : Int)) rfl rfl (by simp only [binD, if_true]; rw [wrap64 (by omega) (by omega)]; congr 2; omega)) rfl ?_
  refine RO.opv (v' := .d (.int _ _)) (opv_assign rfl) rfl ?_
  refine RO.nil ?_
  refine Runs.has [(1, .d (.list (encs _))), (2, .d (.list (encs _))), (3, .d (.int _ _)), (8, .d (.bool false)), (9, .d (.bool true)), (10, .d (.int _ _))] ⟨rfl, rfl, rfl, rfl, rfl, rfl, trivial⟩ ?_
  refine Runs.rseq ?_
  refine RO.opv (v' := .d (.int _ _)) (opv_move rfl) rfl ?_
  refine RO.opv (v' := .d (.int _ _)) (opv_move rfl) rfl ?_
  refine RO.opv (v' := .d (.list (encPs _))) (opv_callF (chainp_fn k hk) rfl rfl rfl trivial) rfl ?_
  refine RO.opv (opv_callF (lnewC_fn k hk) rfl rfl rfl ⟨trivial, trivial, trivial⟩) rfl ?_
  refine RO.opv (opv_move rfl) rfl ?_
  refine RO.opv (v' := .d (encL _)) (opv_extract rfl rfl) rfl ?_
  refine RO.opv (v' := .d (.int _ _)) (opv_extract rfl rfl) rfl ?_
  refine RO.opv (v' := .d (encL _)) (opv_assign rfl) rfl ?_
  refine RO.opv (v' := .d (.int _ _)) (opv_assign rfl) rfl ?_
  refine RO.nil ?_
  refine Runs.has [(1, .d (.list (encs _))), (2, .d (.list (encs _))), (3, .d (.int _ _)), (8, .d (.bool false)), (9, .d (.bool true)), (10, .d (.int _ _)), (11, .d (encL _))] ⟨rfl, rfl, rfl, rfl, rfl, rfl, rfl, trivial⟩ ?_
  refine Runs.seq ?_
  refine Runs.rseq ?_
  refine RO.opv (v' := .d (encL _)) (opv_move rfl) rfl ?_
  refine RO.opv (v' := .d (.bool false)) (opv_eqnil rfl rfl rfl) rfl ?_
  refine RO.opv (v' := .d (.bool false)) (opv_move rfl) rfl ?_
  refine RO.opgv (v' := .d (.list (encs _))) rfl (opv_move rfl) rfl ?_
  refine RO.opgv (v' := .d (.bool _)) rfl (opv_callF (few_fn a (by omega)) rfl rfl rfl trivial) rfl ?_
  refine RO.opgv (v' := .d (.bool _)) rfl (opv_not rfl rfl) rfl ?_
  refine RO.opv (v' := .d (.bool _)) (opv_pick rfl rfl) rfl ?_
  refine RO.opc (opv_move rfl) (fun h1 => ?_) (fun h1 => ?_)
  · try simp only [decide_eq_true_eq, decide_eq_false_iff_not, beq_iff_eq, beq_eq_false_iff_ne, bne_iff_ne, bne_eq_false_iff_eq, Int.not_lt, Int.not_le, ne_eq, Bool.not_eq_true', Bool.not_eq_false', gt_iff_lt, ge_iff_le] at h1
    refine RO.off rfl ?_
    refine RO.off rfl ?_
    refine RO.off rfl ?_
    refine RO.opv (v' := .d (.bool true)) (opv_pick rfl rfl) rfl ?_
    refine RO.nil ?_
    refine Runs.condT rfl ?_
    refine Runs.has [(1, .d (.list (encs _))), (2, .d (.list (encs _))), (3, .d (.int _ _)), (8, .d (.bool false)), (9, .d (.bool true)), (10, .d (.int _ _)), (11, .d (encL _))] ⟨rfl, rfl, rfl, rfl, rfl, rfl, rfl, trivial⟩ ?_
    refine Runs.rseq ?_
    refine RO.opv (v' := .d (.bool true)) (opv_move rfl) rfl ?_
    refine RO.opv (v' := .d (.bool true)) (opv_move rfl) rfl ?_
    refine RO.opgv (v' := .d (encL _)) rfl (opv_move rfl) rfl ?_
    refine RO.opgv (v' := .d (.bool true)) rfl (opv_nenil rfl rfl rfl) rfl ?_
    refine RO.opv (v' := .d (.bool true)) (opv_pick rfl rfl) rfl ?_
    refine RO.opv (v' := .d (.bool true)) (opv_assign rfl) rfl ?_
    refine RO.nil ?_
    refine Runs.ret ?_
    refine thenQ_ret ?_
    refine EndQ.tmp (.inr rfl) rfl rfl 0 (by exact Nat.le_refl _) (by exact Nat.zero_le _) trivial ⟨?_, rfl⟩
    rfl
  · try simp only [decide_eq_true_eq, decide_eq_false_iff_not, beq_iff_eq, beq_eq_false_iff_ne, bne_iff_ne, bne_eq_false_iff_eq, Int.not_lt, Int.not_le, ne_eq, Bool.not_eq_true', Bool.not_eq_false', gt_iff_lt, ge_iff_le] at h1
    refine RO.opgv (v' := .d (.list (encs _))) rfl (opv_move rfl) rfl ?_
    refine RO.opgv (v' := .d (.bool _)) rfl (opv_callF (few_fn b (by omega)) rfl rfl rfl trivial) rfl ?_
    refine RO.opgv (v' := .d (.bool _)) rfl (opv_not rfl rfl) rfl ?_
    refine RO.opc (opv_pick rfl rfl) (fun h2 => ?_) (fun h2 => ?_)
    · try simp only [decide_eq_true_eq, decide_eq_false_iff_not, beq_iff_eq, beq_eq_false_iff_ne, bne_iff_ne, bne_eq_false_iff_eq, Int.not_lt, Int.not_le, ne_eq, Bool.not_eq_true', Bool.not_eq_false', gt_iff_lt, ge_iff_le] at h2
      refine RO.nil ?_
      refine Runs.condT rfl ?_
      refine Runs.has [(1, .d (.list (encs _))), (2, .d (.list (encs _))), (3, .d (.int _ _)), (8, .d (.bool false)), (9, .d (.bool true)), (10, .d (.int _ _)), (11, .d (encL _))] ⟨rfl, rfl, rfl, rfl, rfl, rfl, rfl, trivial⟩ ?_
      refine Runs.rseq ?_
      refine RO.opv (v' := .d (.bool true)) (opv_move rfl) rfl ?_
      refine RO.opv (v' := .d (.bool true)) (opv_move rfl) rfl ?_
      refine RO.opgv (v' := .d (encL _)) rfl (opv_move rfl) rfl ?_
      refine RO.opgv (v' := .d (.bool true)) rfl (opv_nenil rfl rfl rfl) rfl ?_
      refine RO.opv (v' := .d (.bool true)) (opv_pick rfl rfl) rfl ?_
      refine RO.opv (v' := .d (.bool true)) (opv_assign rfl) rfl ?_
      refine RO.nil ?_
      refine Runs.ret ?_
      refine thenQ_ret ?_
      refine EndQ.tmp (.inr rfl) rfl rfl 0 (by exact Nat.le_refl _) (by exact Nat.zero_le _) trivial ⟨?_, rfl⟩
      rfl
    · try simp only [decide_eq_true_eq, decide_eq_false_iff_not, beq_iff_eq, beq_eq_false_iff_ne, bne_iff_ne, bne_eq_false_iff_eq, Int.not_lt, Int.not_le, ne_eq, Bool.not_eq_true', Bool.not_eq_false', gt_iff_lt, ge_iff_le] at h2
      refine RO.nil ?_
      refine Runs.condF rfl ?_
      refine Runs.skip ?_
      refine thenQ_normal ?_
      refine Runs.has [(1, .d (.list (encs _))), (2, .d (.list (encs _))), (3, .d (.int _ _)), (8, .d (.bool false)), (9, .d (.bool true)), (10, .d (.int _ _)), (11, .d (encL _))] ⟨rfl, rfl, rfl, rfl, rfl, rfl, rfl, trivial⟩ ?_
      refine Runs.rseq ?_
      refine RO.opv (v' := .d (.int _ _)) (opv_move rfl) rfl ?_
      refine RO.opv (v' := .d (.int _ _)) (opv_conv (r := c) rfl (wrap64 (by omega) (by omega))) rfl ?_
      refine RO.opv (v' := .d (.int _ _)) (opv_move rfl) rfl ?_
      refine RO.opv (v' := .d (.int _ _)) (opv_arith (r := x) rfl rfl (by simp only [binD, if_true]; rw [if_neg (by omega), x0])) rfl ?_
      refine RO.opv (v' := .d (.int _ _)) (opv_assign rfl) rfl ?_
      refine RO.nil ?_
      refine Runs.has [(1, .d (.list (encs _))), (2, .d (.list (encs _))), (8, .d (.bool false)), (9, .d (.bool true)), (11, .d (encL _)), (13, .d (.int _ _))] ⟨rfl, rfl, rfl, rfl, rfl, rfl, trivial⟩ ?_
      refine Runs.rseq ?_
      refine RO.opv (v' := .nil0) (opv_buildSlice0 rfl) rfl ?_
      refine RO.opv (v' := .d (.list (encs _))) (opv_move rfl) rfl ?_
      refine RO.opn (v' := .own 0 _) (O' := [_]) (opv_append_terms0 rfl rfl (by omega)) rfl rfl ?_
      refine RO.opv (v' := .d (.list (encs _))) (opv_move rfl) rfl ?_
      refine RO.opn (v' := .own 0 _) (O' := [_]) (opv_append_terms rfl rfl rfl (by omega)) rfl rfl ?_
      refine RO.opv (v' := .own 0 _) (opv_assign rfl) rfl ?_
      refine RO.nil ?_
      refine Runs.has [(1, .d (.list (encs _))), (2, .d (.list (encs _))), (8, .d (.bool false)), (9, .d (.bool true)), (11, .d (encL _)), (13, .d (.int _ _)), (14, .own 0 _)] ⟨rfl, rfl, rfl, rfl, rfl, rfl, rfl, trivial⟩ ?_
      refine Runs.shut 14 rfl rfl ?_
      refine Runs.rseq ?_
      refine RO.opv (v' := .d (.bool true)) (opv_move rfl) rfl ?_
      refine RO.opv (v' := .d (.bool true)) (opv_move rfl) rfl ?_
      refine RO.opgv (v' := .d (encL _)) rfl (opv_move rfl) rfl ?_
      refine RO.opgv (v' := .d (.list (encs _))) rfl (opv_move rfl) rfl ?_
      refine RO.opgv (v' := .d (.int _ _)) rfl (opv_move rfl) rfl ?_
      refine RO.opgv (v' := .d (.list (encs _))) rfl (opv_callF (low_fn (C k) (C_ok hk) (a ++ b) x (by omega)) rfl rfl rfl trivial) rfl ?_
      refine RO.opgv (v' := .nil0) rfl (opv_buildSlice0 rfl) rfl ?_
      refine RO.opgv (v' := .d (encL _)) rfl (opv_move rfl) rfl ?_
      refine RO.opgv (v' := .d (.list (encs _))) rfl (opv_move rfl) rfl ?_
      refine RO.opgv (v' := .d (.int _ _)) rfl (opv_move rfl) rfl ?_
      refine RO.opgv (v' := .d (.list (encs _))) rfl (opv_callF (low_fn (C k) (C_ok hk) a x (by omega)) rfl rfl rfl trivial) rfl ?_
      refine RO.opgn (v' := .own 1 _) (O' := [_, _]) rfl (opv_append_terms0 rfl rfl (by omega)) rfl rfl ?_
      refine RO.opgv (v' := .d (encL _)) rfl (opv_move rfl) rfl ?_
      refine RO.opgv (v' := .d (.list (encs _))) rfl (opv_move rfl) rfl ?_
      refine RO.opgv (v' := .d (.int _ _)) rfl (opv_move rfl) rfl ?_
      refine RO.opgv (v' := .d (.list (encs _))) rfl (opv_callF (low_fn (C k) (C_ok hk) b x (by omega)) rfl rfl rfl trivial) rfl ?_
      refine RO.opgn (v' := .own 1 _) (O' := [_, _]) rfl (opv_append_terms rfl rfl rfl (by omega)) rfl rfl ?_
      refine RO.opgv (v' := .d (.bool _)) rfl (opv_callB (lists_fn (low (C k) x (a ++ b)) (low (C k) x a ++ low (C k) x b) (by omega) (by rw [bulks_append]; omega)) rfl ⟨.inl rfl, .inr (.inr ⟨_, _, _, _, _, rfl, rfl, rfl⟩), trivial⟩ rfl rfl) rfl ?_
      refine RO.opv (v' := .d (.bool _)) (opv_pick rfl rfl) rfl ?_
      refine RO.opc (opv_move rfl) (fun h3 => ?_) (fun h3 => ?_)
      · try simp only [decide_eq_true_eq, decide_eq_false_iff_not, beq_iff_eq, beq_eq_false_iff_ne, bne_iff_ne, bne_eq_false_iff_eq, Int.not_lt, Int.not_le, ne_eq, Bool.not_eq_true', Bool.not_eq_false', gt_iff_lt, ge_iff_le] at h3
        refine RO.opgv (v' := .d (.list (encs _))) rfl (opv_move rfl) rfl ?_
        refine RO.opgv (v' := .d (.list (encs _))) rfl (opv_callF (plain_fn (a ++ b) (by omega)) rfl rfl rfl trivial) rfl ?_
        refine RO.opgv (v' := .nil0) rfl (opv_buildSlice0 rfl) rfl ?_
        refine RO.opgv (v' := .d (.list (encs _))) rfl (opv_move rfl) rfl ?_
        refine RO.opgv (v' := .d (.list (encs _))) rfl (opv_callF (plain_fn a (by omega)) rfl rfl rfl trivial) rfl ?_
        refine RO.opgn (v' := .own 2 _) (O' := [_, _, _]) rfl (opv_append_terms0 rfl rfl (by omega)) rfl rfl ?_
        refine RO.opgv (v' := .d (.list (encs _))) rfl (opv_move rfl) rfl ?_
        refine RO.opgv (v' := .d (.list (encs _))) rfl (opv_callF (plain_fn b (by omega)) rfl rfl rfl trivial) rfl ?_
        refine RO.opgn (v' := .own 2 _) (O' := [_, _, _]) rfl (opv_append_terms rfl rfl rfl (by omega)) rfl rfl ?_
        refine RO.opgv (v' := .d (.bool _)) rfl (opv_callB (lists_fn (plain (a ++ b)) (plain a ++ plain b) (by omega) (by rw [bulks_append]; omega)) rfl ⟨.inl rfl, .inr (.inr ⟨_, _, _, _, _, rfl, rfl, rfl⟩), trivial⟩ rfl rfl) rfl ?_
        refine RO.opv (v' := .d (.bool _)) (opv_pick rfl rfl) rfl ?_
        refine RO.opv (v' := .d (.bool _)) (opv_assign rfl) rfl ?_
        refine RO.nil ?_
        refine Runs.ret ?_
        refine EndQ.tmp (.inr rfl) rfl rfl 0 (by exact Nat.le_refl _) (by exact Nat.zero_le _) trivial ⟨?_, rfl⟩
        refine bool_eq ?_; rw [plain_append, (sames_iff _ _).2 rfl]
      · try simp only [decide_eq_true_eq, decide_eq_false_iff_not, beq_iff_eq, beq_eq_false_iff_ne, bne_iff_ne, bne_eq_false_iff_eq, Int.not_lt, Int.not_le, ne_eq, Bool.not_eq_true', Bool.not_eq_false', gt_iff_lt, ge_iff_le] at h3
        rw [low_append hk, (sames_iff _ _).2 rfl] at h3; cases h3
end Go.Proofs.Ytljmkgjemmoegaa.AM
