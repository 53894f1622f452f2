import Derived.Test.YtljmkgjemmoegaaL0
namespace Go.Proofs.Ytljmkgjemmoegaa.AM
open Go
set_option linter.unusedVariables false
set_option linter.unusedSimpArgs false
theorem compareErased_fn (n : Int) (ts : List Term) (a : Int) (g1 : 0 ≤ n) (g1' : n ≤ 255) (g2 : bulks ts ≤ 2 ^ 20) (_g2' : fitss ts) (g3 : 0 ≤ a) (g3' : a ≤ 255) : Fn Try.prog 7 [.d (.int .u8 n), .d (.list (encs ts)), .d (.int .u8 a)] [] (.d (.bool true)) [] := by
  obtain ⟨k, hkn⟩ : ∃ k : Nat, (k : Int) = n.tmod 16 := ⟨(n.tmod 16).toNat, by rw [Int.tmod_eq_emod_of_nonneg g1]; omega⟩
  have hk : k < 16 := by rw [Int.tmod_eq_emod_of_nonneg g1] at hkn; omega
  have hn := C_n hk
  have hrem : n.tmod 16 = (k : Int) := hkn.symm
  obtain ⟨x, x0⟩ : ∃ x : Int, a.tmod ((k + 1 : Nat) : Int) = x := ⟨_, rfl⟩
  have x1 : 0 ≤ x ∧ x ≤ (k : Nat) := by rw [Int.tmod_eq_emod_of_nonneg g3] at x0; have := Int.emod_nonneg a (show ((k + 1 : Nat) : Int) ≠ 0 by omega); have := Int.emod_lt_of_pos a (show (0 : Int) < ((k + 1 : Nat) : Int) by omega); omega
  have hL := bulks_len ts
  have pl := plain_len ts
  have pb := plain_bulk ts
  have hlt : low (C k) (C k).top ts = ts := by rw [C_top hk]; exact low_top hk ts
  refine Does.run Try.func7 rfl Try.ntmps7 rfl fun K hK => ?_
  refine Runs.rseq ?_
  refine RO.opv (v' := .d (.bool false)) (opv_assign rfl) rfl ?_
  refine RO.nil ?_
  refine Runs.rseq ?_
  refine RO.opv (v' := .d (.bool true)) (opv_callF (shown_fn) rfl rfl rfl trivial) rfl ?_
  refine RO.opv (v' := .d (.bool true)) (opv_assign rfl) rfl ?_
  refine RO.nil ?_
  refine Runs.has [(0, .d (.int _ _)), (1, .d (.list (encs _))), (2, .d (.int _ _)), (6, .d (.bool false)), (7, .d (.bool true))] ⟨rfl, rfl, rfl, rfl, rfl, trivial⟩ ?_
  refine Runs.rseq ?_
  refine RO.opv (v' := .d (.int _ _)) (opv_move rfl) rfl ?_
  refine RO.opv (v' := .d (.int _ _)) (opv_arith (r := (k : Int)) rfl rfl (by simp only [binD, if_true]; rw [if_neg (by decide), hrem])) rfl ?_
  refine RO.opv (v' := .d (.int _ _)) (opv_conv (r := (k : Int)) rfl (wrap64 (by omega) (by omega))) rfl ?_
  refine RO.opv (v' := .d (.int _ _)) (opv_arith (r := ((k + 1 : Nat) : Int)) rfl rfl (by simp only [binD, if_true]; rw [wrap64 (by omega) (by omega)]; congr 2; omega)) rfl ?_
  refine RO.opv (v' := .d (.int _ _)) (opv_assign rfl) rfl ?_
  refine RO.nil ?_
  refine Runs.has [(1, .d (.list (encs _))), (2, .d (.int _ _)), (6, .d (.bool false)), (7, .d (.bool true)), (8, .d (.int _ _))] ⟨rfl, rfl, rfl, rfl, rfl, trivial⟩ ?_
  refine Runs.rseq ?_
  refine RO.opv (v' := .d (.int _ _)) (opv_move rfl) rfl ?_
  refine RO.opv (v' := .d (.int _ _)) (opv_move rfl) rfl ?_
  refine RO.opv (v' := .d (.list (encPs _))) (opv_callF (chainp_fn k hk) rfl rfl rfl trivial) rfl ?_
  refine RO.opv (opv_callF (lnewC_fn k hk) rfl rfl rfl ⟨trivial, trivial, trivial⟩) rfl ?_
  refine RO.opv (opv_move rfl) rfl ?_
  refine RO.opv (v' := .d (encL _)) (opv_extract rfl rfl) rfl ?_
  refine RO.opv (v' := .d (.int _ _)) (opv_extract rfl rfl) rfl ?_
  refine RO.opv (v' := .d (encL _)) (opv_assign rfl) rfl ?_
  refine RO.opv (v' := .d (.int _ _)) (opv_assign rfl) rfl ?_
  refine RO.nil ?_
  refine Runs.has [(1, .d (.list (encs _))), (2, .d (.int _ _)), (6, .d (.bool false)), (7, .d (.bool true)), (8, .d (.int _ _)), (9, .d (encL _))] ⟨rfl, rfl, rfl, rfl, rfl, rfl, trivial⟩ ?_
  refine Runs.seq ?_
  refine Runs.rseq ?_
  refine RO.opv (v' := .d (encL _)) (opv_move rfl) rfl ?_
  refine RO.opv (v' := .d (.bool false)) (opv_eqnil rfl rfl rfl) rfl ?_
  refine RO.opv (v' := .d (.bool false)) (opv_move rfl) rfl ?_
  refine RO.opgv (v' := .d (.list (encs _))) rfl (opv_move rfl) rfl ?_
  refine RO.opgv (v' := .d (.bool _)) rfl (opv_callF (few_fn ts (by omega)) rfl rfl rfl trivial) rfl ?_
  refine RO.opgv (v' := .d (.bool _)) rfl (opv_not rfl rfl) rfl ?_
  refine RO.opc (opv_pick rfl rfl) (fun h1 => ?_) (fun h1 => ?_)
  · try simp only [decide_eq_true_eq, decide_eq_false_iff_not, beq_iff_eq, beq_eq_false_iff_ne, bne_iff_ne, bne_eq_false_iff_eq, Int.not_lt, Int.not_le, ne_eq, Bool.not_eq_true', Bool.not_eq_false', gt_iff_lt, ge_iff_le] at h1
    refine RO.nil ?_
    refine Runs.condT rfl ?_
    refine Runs.has [(1, .d (.list (encs _))), (2, .d (.int _ _)), (6, .d (.bool false)), (7, .d (.bool true)), (8, .d (.int _ _)), (9, .d (encL _))] ⟨rfl, rfl, rfl, rfl, rfl, rfl, trivial⟩ ?_
    refine Runs.rseq ?_
    refine RO.opv (v' := .d (.bool true)) (opv_move rfl) rfl ?_
    refine RO.opv (v' := .d (.bool true)) (opv_move rfl) rfl ?_
    refine RO.opgv (v' := .d (encL _)) rfl (opv_move rfl) rfl ?_
    refine RO.opgv (v' := .d (.bool true)) rfl (opv_nenil rfl rfl rfl) rfl ?_
    refine RO.opv (v' := .d (.bool true)) (opv_pick rfl rfl) rfl ?_
    refine RO.opv (v' := .d (.bool true)) (opv_assign rfl) rfl ?_
    refine RO.nil ?_
    refine Runs.ret ?_
    refine thenQ_ret ?_
    refine EndQ.tmp (.inr rfl) rfl rfl 0 (by exact Nat.le_refl _) (by exact Nat.zero_le _) trivial ⟨?_, rfl⟩
    rfl
  · try simp only [decide_eq_true_eq, decide_eq_false_iff_not, beq_iff_eq, beq_eq_false_iff_ne, bne_iff_ne, bne_eq_false_iff_eq, Int.not_lt, Int.not_le, ne_eq, Bool.not_eq_true', Bool.not_eq_false', gt_iff_lt, ge_iff_le] at h1
    refine RO.nil ?_
    refine Runs.condF rfl ?_
    refine Runs.skip ?_
    refine thenQ_normal ?_
    refine Runs.has [(1, .d (.list (encs _))), (2, .d (.int _ _)), (6, .d (.bool false)), (7, .d (.bool true)), (8, .d (.int _ _)), (9, .d (encL _))] ⟨rfl, rfl, rfl, rfl, rfl, rfl, trivial⟩ ?_
    refine Runs.seq ?_
    refine Runs.rseq ?_
    refine RO.opv (v' := .d (.int _ _)) (opv_assign rfl) rfl ?_
    refine RO.nil ?_
    refine Runs.block ?_
    refine Runs.loopC (X := Nat) (fun i => i ≤ ts.length ∧ ∀ (j : Nat) (h : j < ts.length), j < i → ts[j].fine ((k + 1 : Nat) : Int) = true) (fun i => ts.length - i) [(1, .d (.list (encs _))), (2, .d (.int _ _)), (7, .d (.bool true)), (8, .d (.int _ _)), (9, .d (encL _))] (fun i => [(11, .d (.int .i64 (i : Nat)))]) [] (fun i => []) (0) ⟨rfl, rfl, rfl, rfl, rfl, trivial⟩ ⟨rfl, trivial⟩ rfl ⟨Nat.zero_le _, fun j h h0 => absurd h0 (Nat.not_lt_zero _)⟩ fun i hi => ?_
    refine Runs.seq ?_
    refine Runs.rseq ?_
    refine RO.opv (v' := .d (.int _ _)) (opv_move rfl) rfl ?_
    refine RO.opv (v' := .d (.list (encs _))) (opv_move rfl) rfl ?_
    refine RO.opv (v' := .d (.int _ _)) (opv_len_terms rfl) rfl ?_
    refine RO.opc (opv_bin rfl rfl rfl) (fun h2 => ?_) (fun h2 => ?_)
    · try simp only [decide_eq_true_eq, decide_eq_false_iff_not, beq_iff_eq, beq_eq_false_iff_ne, bne_iff_ne, bne_eq_false_iff_eq, Int.not_lt, Int.not_le, ne_eq, Bool.not_eq_true', Bool.not_eq_false', gt_iff_lt, ge_iff_le] at h2
      have hi2 : i < ts.length := by omega
      refine RO.nil ?_
      refine Runs.condT rfl ?_
      refine Runs.skip ?_
      refine thenQ_normal ?_
      refine Runs.has [(1, .d (.list (encs _))), (2, .d (.int _ _)), (7, .d (.bool true)), (8, .d (.int _ _)), (9, .d (encL _)), (11, .d (.int _ _))] ⟨rfl, rfl, rfl, rfl, rfl, rfl, trivial⟩ ?_
      refine Runs.seq ?_
      refine Runs.block ?_
      refine Runs.rseq ?_
      refine RO.opv (v' := .d (.list (encs _))) (opv_move rfl) rfl ?_
      refine RO.opv (v' := .d (.int _ _)) (opv_move rfl) rfl ?_
      refine RO.opv (v' := .d (.ptr _)) (opv_index_terms rfl rfl (by omega)) rfl ?_
      refine RO.opv (v' := .d (enc _)) (opv_load_pterm rfl) rfl ?_
      refine RO.opv (v' := .d (.int _ _)) (opv_move rfl) rfl ?_
      refine RO.opv (v' := .d (.int _ _)) (opv_callF (check_fn ts[i] ((k + 1 : Nat) : Int) (by have := bulks_mem (List.getElem_mem hi2); omega)) rfl rfl rfl trivial) rfl ?_
      refine RO.opc (opv_bin rfl rfl rfl) (fun h3 => ?_) (fun h3 => ?_)
      · try simp only [decide_eq_true_eq, decide_eq_false_iff_not, beq_iff_eq, beq_eq_false_iff_ne, bne_iff_ne, bne_eq_false_iff_eq, Int.not_lt, Int.not_le, ne_eq, Bool.not_eq_true', Bool.not_eq_false', gt_iff_lt, ge_iff_le] at h3
        skip
        refine RO.nil ?_
        refine Runs.condT rfl ?_
        refine Runs.has [(1, .d (.list (encs _))), (2, .d (.int _ _)), (7, .d (.bool true)), (8, .d (.int _ _)), (9, .d (encL _)), (11, .d (.int _ _))] ⟨rfl, rfl, rfl, rfl, rfl, rfl, trivial⟩ ?_
        refine Runs.rseq ?_
        refine RO.opv (v' := .d (.bool true)) (opv_move rfl) rfl ?_
        refine RO.opv (v' := .d (.bool true)) (opv_assign rfl) rfl ?_
        refine RO.nil ?_
        refine Runs.ret ?_
        refine blockQ_ret ?_
        refine thenQ_ret ?_
        refine thenQ_ret ?_
        refine blockQ_ret ?_
        refine thenQ_ret ?_
        refine EndQ.tmp (.inr rfl) rfl rfl 0 (by exact Nat.le_refl _) (by exact Nat.zero_le _) trivial ⟨?_, rfl⟩
        rfl
      · try simp only [decide_eq_true_eq, decide_eq_false_iff_not, beq_iff_eq, beq_eq_false_iff_ne, bne_iff_ne, bne_eq_false_iff_eq, Int.not_lt, Int.not_le, ne_eq, Bool.not_eq_true', Bool.not_eq_false', gt_iff_lt, ge_iff_le] at h3
        have hfi := fine_check h3
        refine RO.nil ?_
        refine Runs.condF rfl ?_
        refine Runs.skip ?_
        refine blockQ_normal ?_
        refine thenQ_normal ?_
        refine Runs.has [(1, .d (.list (encs _))), (2, .d (.int _ _)), (7, .d (.bool true)), (8, .d (.int _ _)), (9, .d (encL _)), (11, .d (.int _ _))] ⟨rfl, rfl, rfl, rfl, rfl, rfl, trivial⟩ ?_
        refine Runs.region ?_
        refine RO.opv (v' := .d (.int _ _)) (opv_move rfl) rfl ?_
        refine RO.opv (v' := .d (.int _ _)) (opv_bin rfl rfl rfl) rfl ?_
        refine RO.opv (v' := .d (.int _ _)) (opv_assign rfl) rfl ?_
        refine RO.nil ?_
        refine thenQ_normal ?_
        refine ⟨i + 1, 0, (by rw [hK]; exact Nat.le_of_ble_eq_true rfl), ⟨rfl, rfl, rfl, rfl, rfl, trivial⟩, ⟨?_, trivial⟩, rfl, ?_, ?_⟩
        · refine int_eq ?_; rw [wrap64 (by omega) (by omega)]; omega
        · refine ⟨by omega, fun j hj hji => ?_⟩
          by_cases e : j = i
          · subst e; exact hfi
          · exact hi.2 j hj (by omega)
        · omega
    · try simp only [decide_eq_true_eq, decide_eq_false_iff_not, beq_iff_eq, beq_eq_false_iff_ne, bne_iff_ne, bne_eq_false_iff_eq, Int.not_lt, Int.not_le, ne_eq, Bool.not_eq_true', Bool.not_eq_false', gt_iff_lt, ge_iff_le] at h2
      have hi2 : i = ts.length := by omega
      refine RO.nil ?_
      refine Runs.condF rfl ?_
      refine Runs.exit ?_
      refine thenQ_exit ?_
      refine thenQ_exit ?_
      refine blockQ_here ?_
      refine thenQ_normal ?_
      refine Runs.has [(1, .d (.list (encs _))), (2, .d (.int _ _)), (7, .d (.bool true)), (8, .d (.int _ _)), (9, .d (encL _))] ⟨rfl, rfl, rfl, rfl, rfl, trivial⟩ ?_
      refine Runs.rseq ?_
      refine RO.opv (v' := .d (.list (encs _))) (opv_move rfl) rfl ?_
      refine RO.opv (v' := .d (.list (encs _))) (opv_callF (plain_fn ts (by omega)) rfl rfl rfl trivial) rfl ?_
      refine RO.opv (v' := .d (.list (encs _))) (opv_assign rfl) rfl ?_
      refine RO.nil ?_
      refine Runs.has [(1, .d (.list (encs _))), (2, .d (.int _ _)), (7, .d (.bool true)), (8, .d (.int _ _)), (9, .d (encL _)), (12, .d (.list (encs _)))] ⟨rfl, rfl, rfl, rfl, rfl, rfl, trivial⟩ ?_
      refine Runs.seq ?_
      refine Runs.rseq ?_
      refine RO.opv (v' := .d (.int _ _)) (opv_assign rfl) rfl ?_
      refine RO.nil ?_
      refine Runs.block ?_
      refine Runs.loopC (X := Nat) (fun j => j ≤ (plain ts).length) (fun j => (plain ts).length - j) [(1, .d (.list (encs _))), (2, .d (.int _ _)), (7, .d (.bool true)), (8, .d (.int _ _)), (9, .d (encL _)), (12, .d (.list (encs _)))] (fun j => [(13, .d (.int .i64 (j : Nat)))]) [] (fun j => []) (0) ⟨rfl, rfl, rfl, rfl, rfl, rfl, trivial⟩ ⟨rfl, trivial⟩ rfl (by omega) fun j hj => ?_
      refine Runs.seq ?_
      refine Runs.rseq ?_
      refine RO.opv (v' := .d (.int _ _)) (opv_move rfl) rfl ?_
      refine RO.opv (v' := .d (.list (encs _))) (opv_move rfl) rfl ?_
      refine RO.opv (v' := .d (.int _ _)) (opv_len_terms rfl) rfl ?_
      refine RO.opc (opv_bin rfl rfl rfl) (fun h4 => ?_) (fun h4 => ?_)
      · try simp only [decide_eq_true_eq, decide_eq_false_iff_not, beq_iff_eq, beq_eq_false_iff_ne, bne_iff_ne, bne_eq_false_iff_eq, Int.not_lt, Int.not_le, ne_eq, Bool.not_eq_true', Bool.not_eq_false', gt_iff_lt, ge_iff_le] at h4
        have hj2 : j < (plain ts).length := by omega
        have hj3 : j < ts.length := by omega
        have hbj := bulks_mem (List.getElem_mem hj2)
        have hsj := see_bulk (C k) x (plain ts)[j]
        obtain ⟨u, hu1, hu2⟩ := fine_plain1 (hi.2 j hj3 (by omega))
        have hpj : (plain ts)[j] = u.erase := by simp only [plain, List.getElem_map]; exact hu2
        refine RO.nil ?_
        refine Runs.condT rfl ?_
        refine Runs.skip ?_
        refine thenQ_normal ?_
        refine Runs.has [(1, .d (.list (encs _))), (2, .d (.int _ _)), (7, .d (.bool true)), (8, .d (.int _ _)), (9, .d (encL _)), (12, .d (.list (encs _))), (13, .d (.int _ _))] ⟨rfl, rfl, rfl, rfl, rfl, rfl, rfl, trivial⟩ ?_
        refine Runs.seq ?_
        refine Runs.block ?_
        refine Runs.seq ?_
        refine Runs.drawn (by kernel_rfl) [] [false, false, false, false, false, false, false, false, false, false, false, false, false, false, false, false] [false, false, false, false, false, false, false, false, false, false, false, false, false, false, false, false] (by decide +kernel) ?_
        refine RD.opv (v' := .d (encL _)) (opv_move rfl) rfl ?_
        refine RD.opv (v' := .d (.list (encs _))) (opv_move rfl) rfl ?_
        refine RD.opv (v' := .d (.int _ _)) (opv_move rfl) rfl ?_
        refine RD.opv (v' := .d (.ptr _)) (opv_index_terms rfl rfl hj2) rfl ?_
        refine RD.opv (v' := .d (enc _)) (opv_load_pterm rfl) rfl ?_
        refine RD.opv (v' := .d (.int _ _)) (opv_move rfl) rfl ?_
        refine RD.opv (v' := .d (.int _ _)) (opv_conv (r := a) rfl (wrap64 (by omega) (by omega))) rfl ?_
        refine RD.opv (v' := .d (.int _ _)) (opv_move rfl) rfl ?_
        refine RD.opv (v' := .d (.int _ _)) (opv_arith (r := x) rfl rfl (by simp only [binD, if_true]; rw [if_neg (by omega), x0])) rfl ?_
        refine RD.opv (v' := .d (enc _)) (opv_callF (seen_fn (C k) (C_ok hk) (plain ts)[j] x (by omega)) rfl rfl rfl trivial) rfl ?_
        refine RD.opv (v' := .d (.list (encs _))) (opv_move rfl) rfl ?_
        refine RD.opv (v' := .d (.int _ _)) (opv_move rfl) rfl ?_
        refine RD.opv (v' := .d (.ptr _)) (opv_index_terms rfl rfl hj2) rfl ?_
        refine RD.opv (v' := .d (enc _)) (opv_load_pterm rfl) rfl ?_
        refine RD.opv (v' := .d (.bool _)) (opv_callF (same_fn ((plain ts)[j].see (C k) x) (plain ts)[j] (by omega) (by omega)) rfl rfl rfl trivial) rfl ?_
        refine RD.opc (opv_not rfl rfl) (fun h5 => ?_) (fun h5 => ?_)
        · try simp only [decide_eq_true_eq, decide_eq_false_iff_not, beq_iff_eq, beq_eq_false_iff_ne, bne_iff_ne, bne_eq_false_iff_eq, Int.not_lt, Int.not_le, ne_eq, Bool.not_eq_true', Bool.not_eq_false', gt_iff_lt, ge_iff_le] at h5
          rw [hpj, see_erased hk u hu1, same_refl] at h5; cases h5
        · try simp only [decide_eq_true_eq, decide_eq_false_iff_not, beq_iff_eq, beq_eq_false_iff_ne, bne_iff_ne, bne_eq_false_iff_eq, Int.not_lt, Int.not_le, ne_eq, Bool.not_eq_true', Bool.not_eq_false', gt_iff_lt, ge_iff_le] at h5
          refine RD.nil ?_
          refine thenQ_normal ?_
          refine Runs.condF rfl ?_
          refine Runs.skip ?_
          refine blockQ_normal ?_
          refine thenQ_normal ?_
          refine Runs.has [(1, .d (.list (encs _))), (2, .d (.int _ _)), (7, .d (.bool true)), (8, .d (.int _ _)), (9, .d (encL _)), (12, .d (.list (encs _))), (13, .d (.int _ _))] ⟨rfl, rfl, rfl, rfl, rfl, rfl, rfl, trivial⟩ ?_
          refine Runs.region ?_
          refine RO.opv (v' := .d (.int _ _)) (opv_move rfl) rfl ?_
          refine RO.opv (v' := .d (.int _ _)) (opv_bin rfl rfl rfl) rfl ?_
          refine RO.opv (v' := .d (.int _ _)) (opv_assign rfl) rfl ?_
          refine RO.nil ?_
          refine thenQ_normal ?_
          refine ⟨j + 1, 0, (by rw [hK]; exact Nat.le_of_ble_eq_true rfl), ⟨rfl, rfl, rfl, rfl, rfl, rfl, trivial⟩, ⟨?_, trivial⟩, rfl, ?_, ?_⟩
          · refine int_eq ?_; rw [wrap64 (by omega) (by omega)]; omega
          · omega
          · omega
      · try simp only [decide_eq_true_eq, decide_eq_false_iff_not, beq_iff_eq, beq_eq_false_iff_ne, bne_iff_ne, bne_eq_false_iff_eq, Int.not_lt, Int.not_le, ne_eq, Bool.not_eq_true', Bool.not_eq_false', gt_iff_lt, ge_iff_le] at h4
        have hj2 : j = (plain ts).length := by omega
        refine RO.nil ?_
        refine Runs.condF rfl ?_
        refine Runs.exit ?_
        refine thenQ_exit ?_
        refine thenQ_exit ?_
        refine blockQ_here ?_
        refine thenQ_normal ?_
        refine Runs.has [(1, .d (.list (encs _))), (7, .d (.bool true)), (9, .d (encL _)), (12, .d (.list (encs _)))] ⟨rfl, rfl, rfl, rfl, trivial⟩ ?_
        refine Runs.rseq ?_
        refine RO.opv (v' := .d (.bool true)) (opv_move rfl) rfl ?_
        refine RO.opv (v' := .d (.bool true)) (opv_move rfl) rfl ?_
        refine RO.opgv (v' := .d (encL _)) rfl (opv_move rfl) rfl ?_
        refine RO.opgv (v' := .d (.list (encs _))) rfl (opv_move rfl) rfl ?_
        refine RO.opgv (v' := .d (encL _)) rfl (opv_move rfl) rfl ?_
        refine RO.opgv (v' := .d (.int _ _)) rfl (opv_callF (ltop_fn (C k) (C_ok hk)) rfl rfl rfl trivial) rfl ?_
        refine RO.opgv (v' := .d (.list (encs _))) rfl (opv_callF (low_fn (C k) (C_ok hk) ts (C k).top (by omega)) rfl rfl rfl trivial) rfl ?_
        refine RO.opgv (v' := .d (.list (encs _))) rfl (opv_callF (plain_fn (low (C k) (C k).top ts) (by rw [hlt]; omega)) rfl rfl rfl trivial) rfl ?_
        refine RO.opgv (v' := .d (.list (encs _))) rfl (opv_move rfl) rfl ?_
        refine RO.opgv (v' := .d (.bool _)) rfl (opv_callF (lists_fn (plain (low (C k) (C k).top ts)) (plain ts) (by rw [hlt]; omega) (by omega)) rfl rfl rfl trivial) rfl ?_
        refine RO.opv (v' := .d (.bool _)) (opv_pick rfl rfl) rfl ?_
        refine RO.opv (v' := .d (.bool _)) (opv_assign rfl) rfl ?_
        refine RO.nil ?_
        refine Runs.ret ?_
        refine EndQ.tmp (.inr rfl) rfl rfl 0 (by exact Nat.le_refl _) (by exact Nat.zero_le _) trivial ⟨?_, rfl⟩
        refine bool_eq ?_; rw [hlt, (sames_iff _ _).2 rfl]
end Go.Proofs.Ytljmkgjemmoegaa.AM
