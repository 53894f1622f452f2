import Derived.Test.YtklnjmnpkelnkaaL0
namespace Go.Proofs.Ytklnjmnpkelnkaa.AM
open Go
set_option linter.unusedVariables false
set_option linter.unusedSimpArgs false
theorem sealHides_fn (n : Int) (t : Term) (a b : Int) (g1 : 0 ≤ n) (g1' : n ≤ 255) (g2 : t.bulk ≤ 2 ^ 20) (_g2' : t.fits) (g3 : 0 ≤ a) (g3' : a ≤ 255) (g4 : 0 ≤ b) (g4' : b ≤ 255) : Fn Try.prog 8 [.d (.int .u8 n), .d (enc t), .d (.int .u8 a), .d (.int .u8 b)] [] (.d (.bool true)) [] := by
  obtain ⟨k, hkn⟩ : ∃ k : Nat, (k : Int) = n.tmod 16 := ⟨(n.tmod 16).toNat, by rw [Int.tmod_eq_emod_of_nonneg g1]; omega⟩
  have hk : k < 16 := by rw [Int.tmod_eq_emod_of_nonneg g1] at hkn; omega
  have hn := C_n hk
  have hrem : n.tmod 16 = (k : Int) := hkn.symm
  obtain ⟨x, x0⟩ : ∃ x : Int, a.tmod (C k).n = x := ⟨_, rfl⟩
  have x1 : 0 ≤ x ∧ x ≤ (k : Nat) := by rw [hn, Int.tmod_eq_emod_of_nonneg g3] at x0; have := Int.emod_nonneg a (show (k : Int) + 1 ≠ 0 by omega); have := Int.emod_lt_of_pos a (show (0 : Int) < (k : Int) + 1 by omega); omega
  obtain ⟨y, y0⟩ : ∃ x : Int, b.tmod (C k).n = x := ⟨_, rfl⟩
  have y1 : 0 ≤ y ∧ y ≤ (k : Nat) := by rw [hn, Int.tmod_eq_emod_of_nonneg g4] at y0; have := Int.emod_nonneg b (show (k : Int) + 1 ≠ 0 by omega); have := Int.emod_lt_of_pos b (show (0 : Int) < (k : Int) + 1 by omega); omega
  have b1 := hide_bulk (C k) x t
  have b2 := hide_bulk (C k) y (t.hide (C k) x)
  have b3 := hide_bulk (C k) x (t.hide (C k) x)
  have b4 := hide_bulk (C k) (C k).top t
  have b5 := hide_bulk (C k) ((C k).meet x y) t
  have rh := sj_rng hk (t.hide (C k) x)
  have hm := C_meet hk x1.1 x1.2 y1.1 y1.2
  refine Does.run Try.func8 rfl Try.ntmps8 rfl fun K hK => ?_
  refine Runs.rseq ?_
  refine RO.opn (v' := .ref 0 0) (O' := [_]) (opv_box_term rfl) rfl rfl ?_
  refine RO.opv (v' := .d (.bool false)) (opv_assign rfl) rfl ?_
  refine RO.nil ?_
  refine Runs.has [(0, .d (.int _ _)), (2, .d (.int _ _)), (3, .d (.int _ _)), (5, .ref 0 0), (8, .d (.bool false))] ⟨rfl, rfl, rfl, rfl, rfl, trivial⟩ ?_
  refine Runs.rseq ?_
  refine RO.opv (v' := .d (.bool true)) (opv_callF (shown_fn) rfl rfl rfl trivial) rfl ?_
  refine RO.opv (v' := .d (.bool true)) (opv_assign rfl) rfl ?_
  refine RO.nil ?_
  refine Runs.has [(0, .d (.int _ _)), (2, .d (.int _ _)), (3, .d (.int _ _)), (5, .ref 0 0), (8, .d (.bool false)), (9, .d (.bool true))] ⟨rfl, rfl, rfl, rfl, rfl, rfl, trivial⟩ ?_
  refine Runs.rseq ?_
  refine RO.opv (v' := .d (.int _ _)) (opv_move rfl) rfl ?_
  refine RO.opv (v' := .d (.int _ _)) (opv_arith (r := (k : Int)) rfl rfl (by simp only [binD, if_true]; rw [if_neg (by decide), hrem])) rfl ?_
  refine RO.opv (v' := .d (.int _ _)) (opv_conv (r := (k : Int)) rfl (wrap64 (by omega) (by omega))) rfl ?_
  refine RO.opv (v' := .d (.int _ _)) (opv_arith (r := ((k + 1 : Nat) : Int)) rfl rfl (by simp only [binD, if_true]; rw [wrap64 (by omega) (by omega)]; congr 2; omega)) rfl ?_
  refine RO.opv (v' := .d (encL _)) (opv_callF (chain_fn k hk) rfl rfl rfl trivial) rfl ?_
  refine RO.opv (v' := .d (encL _)) (opv_assign rfl) rfl ?_
  refine RO.nil ?_
  refine Runs.has [(2, .d (.int _ _)), (3, .d (.int _ _)), (5, .ref 0 0), (8, .d (.bool false)), (9, .d (.bool true)), (10, .d (encL _))] ⟨rfl, rfl, rfl, rfl, rfl, rfl, trivial⟩ ?_
  refine Runs.seq ?_
  refine Runs.seq ?_
  refine Runs.drawn (by kernel_rfl) [] [false, false, false, false, false, false, false, false, false, false, false, false, false, false] [false, false, false, false, false, false, false, false, false, false, false, false, false, false] (by decide +kernel) ?_
  refine RD.opv (v' := .d (enc _)) (opv_load_term rfl rfl rfl) rfl ?_
  refine RD.opv (v' := .d (.bool _)) (opv_callF (few_fn t (by omega)) rfl rfl rfl trivial) rfl ?_
  refine RD.opv (v' := .d (.bool _)) (opv_not rfl rfl) rfl ?_
  refine RD.opc (opv_move rfl) (fun h1 => ?_) (fun h1 => ?_)
  · try simp only [decide_eq_true_eq, decide_eq_false_iff_not, beq_iff_eq, beq_eq_false_iff_ne, bne_iff_ne, bne_eq_false_iff_eq, Int.not_lt, Int.not_le, ne_eq, Bool.not_eq_true', Bool.not_eq_false', gt_iff_lt, ge_iff_le] at h1
    refine RD.off rfl ?_
    refine RD.off rfl ?_
    refine RD.opv (v' := .d (.bool true)) (opv_pick rfl rfl) rfl ?_
    refine RD.opv (v' := .d (.bool true)) (opv_move rfl) rfl ?_
    refine RD.off rfl ?_
    refine RD.off rfl ?_
    refine RD.off rfl ?_
    refine RD.off rfl ?_
    refine RD.off rfl ?_
    refine RD.opv (v' := .d (.bool true)) (opv_pick rfl rfl) rfl ?_
    refine RD.nil ?_
    refine thenQ_normal ?_
    refine Runs.condT rfl ?_
    refine Runs.has [(2, .d (.int _ _)), (3, .d (.int _ _)), (5, .ref 0 0), (8, .d (.bool false)), (9, .d (.bool true)), (10, .d (encL _))] ⟨rfl, rfl, rfl, rfl, rfl, rfl, trivial⟩ ?_
    refine Runs.rseq ?_
    refine RO.opv (v' := .d (.bool true)) (opv_move rfl) rfl ?_
    refine RO.opv (v' := .d (.bool true)) (opv_move rfl) rfl ?_
    refine RO.opgv (v' := .d (encL _)) rfl (opv_move rfl) rfl ?_
    refine RO.opgv (v' := .d (.bool true)) rfl (opv_nenil rfl rfl rfl) rfl ?_
    refine RO.opv (v' := .d (.bool true)) (opv_pick rfl rfl) rfl ?_
    refine RO.opv (v' := .d (.bool true)) (opv_assign rfl) rfl ?_
    refine RO.nil ?_
    refine Runs.ret ?_
    refine thenQ_ret ?_
    refine EndQ.tmp (.inr rfl) rfl rfl 0 (by exact Nat.le_refl _) (by exact Nat.zero_le _) trivial ⟨?_, rfl⟩
    rfl
  · try simp only [decide_eq_true_eq, decide_eq_false_iff_not, beq_iff_eq, beq_eq_false_iff_ne, bne_iff_ne, bne_eq_false_iff_eq, Int.not_lt, Int.not_le, ne_eq, Bool.not_eq_true', Bool.not_eq_false', gt_iff_lt, ge_iff_le] at h1
    refine RD.opgv (v' := .d (encL _)) rfl (opv_move rfl) rfl ?_
    refine RD.opgv (v' := .d (.bool false)) rfl (opv_eqnil rfl rfl rfl) rfl ?_
    refine RD.opv (v' := .d (.bool false)) (opv_pick rfl rfl) rfl ?_
    refine RD.opv (v' := .d (.bool false)) (opv_move rfl) rfl ?_
    refine RD.opgv (v' := .d (enc _)) rfl (opv_load_term rfl rfl rfl) rfl ?_
    refine RD.opgv (v' := .d (encL _)) rfl (opv_move rfl) rfl ?_
    refine RD.opgv (v' := .d (.int _ _)) rfl (opv_callF (llen_fn (C k)) rfl rfl rfl trivial) rfl ?_
    refine RD.opgv (v' := .d (.int _ _)) rfl (opv_callF (check_fn t ((C k).n : Nat) (by omega)) rfl rfl rfl trivial) rfl ?_
    refine RD.opgv (v' := .d (.bool _)) rfl (opv_bin rfl rfl rfl) rfl ?_
    refine RD.opc (opv_pick rfl rfl) (fun h2 => ?_) (fun h2 => ?_)
    · try simp only [decide_eq_true_eq, decide_eq_false_iff_not, beq_iff_eq, beq_eq_false_iff_ne, bne_iff_ne, bne_eq_false_iff_eq, Int.not_lt, Int.not_le, ne_eq, Bool.not_eq_true', Bool.not_eq_false', gt_iff_lt, ge_iff_le] at h2
      skip
      refine RD.nil ?_
      refine thenQ_normal ?_
      refine Runs.condT rfl ?_
      refine Runs.has [(2, .d (.int _ _)), (3, .d (.int _ _)), (5, .ref 0 0), (8, .d (.bool false)), (9, .d (.bool true)), (10, .d (encL _))] ⟨rfl, rfl, rfl, rfl, rfl, rfl, trivial⟩ ?_
      refine Runs.rseq ?_
      refine RO.opv (v' := .d (.bool true)) (opv_move rfl) rfl ?_
      refine RO.opv (v' := .d (.bool true)) (opv_move rfl) rfl ?_
      refine RO.opgv (v' := .d (encL _)) rfl (opv_move rfl) rfl ?_
      refine RO.opgv (v' := .d (.bool true)) rfl (opv_nenil rfl rfl rfl) rfl ?_
      refine RO.opv (v' := .d (.bool true)) (opv_pick rfl rfl) rfl ?_
      refine RO.opv (v' := .d (.bool true)) (opv_assign rfl) rfl ?_
      refine RO.nil ?_
      refine Runs.ret ?_
      refine thenQ_ret ?_
      refine EndQ.tmp (.inr rfl) rfl rfl 0 (by exact Nat.le_refl _) (by exact Nat.zero_le _) trivial ⟨?_, rfl⟩
      rfl
    · try simp only [decide_eq_true_eq, decide_eq_false_iff_not, beq_iff_eq, beq_eq_false_iff_ne, bne_iff_ne, bne_eq_false_iff_eq, Int.not_lt, Int.not_le, ne_eq, Bool.not_eq_true', Bool.not_eq_false', gt_iff_lt, ge_iff_le] at h2
      have hf := fine_check h2
      refine RD.nil ?_
      refine thenQ_normal ?_
      refine Runs.condF rfl ?_
      refine Runs.skip ?_
      refine thenQ_normal ?_
      refine Runs.has [(2, .d (.int _ _)), (3, .d (.int _ _)), (5, .ref 0 0), (8, .d (.bool false)), (9, .d (.bool true)), (10, .d (encL _))] ⟨rfl, rfl, rfl, rfl, rfl, rfl, trivial⟩ ?_
      refine Runs.rseq ?_
      refine RO.opv (v' := .d (.int _ _)) (opv_move rfl) rfl ?_
      refine RO.opv (v' := .d (.int _ _)) (opv_conv (r := a) rfl (wrap64 (by omega) (by omega))) rfl ?_
      refine RO.opv (v' := .d (encL _)) (opv_move rfl) rfl ?_
      refine RO.opv (v' := .d (.int _ _)) (opv_callF (llen_fn (C k)) rfl rfl rfl trivial) rfl ?_
      refine RO.opv (v' := .d (.int _ _)) (opv_arith (r := x) rfl rfl (by simp only [binD, if_true]; rw [if_neg (by omega), x0])) rfl ?_
      refine RO.opv (v' := .d (.int _ _)) (opv_assign rfl) rfl ?_
      refine RO.nil ?_
      refine Runs.has [(3, .d (.int _ _)), (5, .ref 0 0), (8, .d (.bool false)), (9, .d (.bool true)), (10, .d (encL _)), (11, .d (.int _ _))] ⟨rfl, rfl, rfl, rfl, rfl, rfl, trivial⟩ ?_
      refine Runs.rseq ?_
      refine RO.opv (v' := .d (.int _ _)) (opv_move rfl) rfl ?_
      refine RO.opv (v' := .d (.int _ _)) (opv_conv (r := b) rfl (wrap64 (by omega) (by omega))) rfl ?_
      refine RO.opv (v' := .d (encL _)) (opv_move rfl) rfl ?_
      refine RO.opv (v' := .d (.int _ _)) (opv_callF (llen_fn (C k)) rfl rfl rfl trivial) rfl ?_
      refine RO.opv (v' := .d (.int _ _)) (opv_arith (r := y) rfl rfl (by simp only [binD, if_true]; rw [if_neg (by omega), y0])) rfl ?_
      refine RO.opv (v' := .d (.int _ _)) (opv_assign rfl) rfl ?_
      refine RO.nil ?_
      refine Runs.has [(5, .ref 0 0), (8, .d (.bool false)), (9, .d (.bool true)), (10, .d (encL _)), (11, .d (.int _ _)), (12, .d (.int _ _))] ⟨rfl, rfl, rfl, rfl, rfl, rfl, trivial⟩ ?_
      refine Runs.rseq ?_
      refine RO.opv (v' := .d (encL _)) (opv_move rfl) rfl ?_
      refine RO.opv (v' := .d (enc _)) (opv_load_term rfl rfl rfl) rfl ?_
      refine RO.opv (v' := .d (.int _ _)) (opv_move rfl) rfl ?_
      refine RO.opv (v' := .d (enc _)) (opv_callF (hide_fn (C k) (C_ok hk) t x (by omega)) rfl rfl rfl trivial) rfl ?_
      refine RO.opn (v' := .ref 1 0) (O' := [_, _]) (opv_alloc) rfl rfl ?_
      refine RO.op0n (O' := [_, _]) (opv_store_term rfl rfl rfl (Nat.le_of_ble_eq_true rfl)) rfl ?_
      refine RO.nil ?_
      refine Runs.has [(5, .ref 0 0), (8, .d (.bool false)), (9, .d (.bool true)), (10, .d (encL _)), (11, .d (.int _ _)), (12, .d (.int _ _)), (13, .ref 1 0)] ⟨rfl, rfl, rfl, rfl, rfl, rfl, rfl, trivial⟩ ?_
      refine Runs.seq ?_
      refine Runs.drawn (by kernel_rfl) [] [false, false, false, false, false, false, false, false, false, false, false, false, false, false, false, false, false, false, false, false, false, false, false, false, false, false, false, false, false, false, false, false, false, false, false, false, false, false, false, false, false, false, false, false] [false, false, false, false, false, false, false, false, false, false, false, false, false, false, false, false, false, false, false, false, false, false, false, false, false, false, false, false, false, false, false, false, false, false, false, false, false, false, false, false, false, false, false, false] (by decide +kernel) ?_
      refine RD.opv (v' := .d (.bool true)) (opv_move rfl) rfl ?_
      refine RD.opv (v' := .d (.bool true)) (opv_move rfl) rfl ?_
      refine RD.opgv (v' := .d (encL _)) rfl (opv_move rfl) rfl ?_
      refine RD.opgv (v' := .d (encL _)) rfl (opv_move rfl) rfl ?_
      refine RD.opgv (v' := .d (enc _)) rfl (opv_load_term rfl rfl rfl) rfl ?_
      refine RD.opgv (v' := .d (.int _ _)) rfl (opv_callF (sjoin_fn (C k) (C_ok hk) (t.hide (C k) x) (by omega)) rfl rfl rfl trivial) rfl ?_
      refine RD.opgv (v' := .d (.int _ _)) rfl (opv_move rfl) rfl ?_
      refine RD.opgv (v' := .d (.bool _)) rfl (opv_callF (leq_fn (C k) (C_ok hk) _ _) rfl rfl rfl trivial) rfl ?_
      refine RD.opv (v' := .d (.bool _)) (opv_pick rfl rfl) rfl ?_
      refine RD.opc (opv_move rfl) (fun h3 => ?_) (fun h3 => ?_)
      · try simp only [decide_eq_true_eq, decide_eq_false_iff_not, beq_iff_eq, beq_eq_false_iff_ne, bne_iff_ne, bne_eq_false_iff_eq, Int.not_lt, Int.not_le, ne_eq, Bool.not_eq_true', Bool.not_eq_false', gt_iff_lt, ge_iff_le] at h3
        refine RD.opgv (v' := .d (encL _)) rfl (opv_move rfl) rfl ?_
        refine RD.opgv (v' := .d (enc _)) rfl (opv_load_term rfl rfl rfl) rfl ?_
        refine RD.opgv (v' := .d (.int _ _)) rfl (opv_move rfl) rfl ?_
        refine RD.opgv (v' := .d (enc _)) rfl (opv_callF (hide_fn (C k) (C_ok hk) (t.hide (C k) x) x (by omega)) rfl rfl rfl trivial) rfl ?_
        refine RD.opgv (v' := .d (enc _)) rfl (opv_load_term rfl rfl rfl) rfl ?_
        refine RD.opgv (v' := .d (.bool _)) rfl (opv_callF (same_fn ((t.hide (C k) x).hide (C k) x) (t.hide (C k) x) (by omega) (by omega)) rfl rfl rfl trivial) rfl ?_
        refine RD.opv (v' := .d (.bool _)) (opv_pick rfl rfl) rfl ?_
        refine RD.opc (opv_move rfl) (fun h4 => ?_) (fun h4 => ?_)
        · try simp only [decide_eq_true_eq, decide_eq_false_iff_not, beq_iff_eq, beq_eq_false_iff_ne, bne_iff_ne, bne_eq_false_iff_eq, Int.not_lt, Int.not_le, ne_eq, Bool.not_eq_true', Bool.not_eq_false', gt_iff_lt, ge_iff_le] at h4
          refine RD.opgv (v' := .d (encL _)) rfl (opv_move rfl) rfl ?_
          refine RD.opgv (v' := .d (enc _)) rfl (opv_load_term rfl rfl rfl) rfl ?_
          refine RD.opgv (v' := .d (encL _)) rfl (opv_move rfl) rfl ?_
          refine RD.opgv (v' := .d (.int _ _)) rfl (opv_callF (ltop_fn (C k) (C_ok hk)) rfl rfl rfl trivial) rfl ?_
          refine RD.opgv (v' := .d (enc _)) rfl (opv_callF (hide_fn (C k) (C_ok hk) t _ (by omega)) rfl rfl rfl trivial) rfl ?_
          refine RD.opgv (v' := .d (enc _)) rfl (opv_load_term rfl rfl rfl) rfl ?_
          refine RD.opgv (v' := .d (.bool _)) rfl (opv_callF (same_fn (t.hide (C k) (C k).top) t (by omega) (by omega)) rfl rfl rfl trivial) rfl ?_
          refine RD.opv (v' := .d (.bool _)) (opv_pick rfl rfl) rfl ?_
          refine RD.opc (opv_move rfl) (fun h5 => ?_) (fun h5 => ?_)
          · try simp only [decide_eq_true_eq, decide_eq_false_iff_not, beq_iff_eq, beq_eq_false_iff_ne, bne_iff_ne, bne_eq_false_iff_eq, Int.not_lt, Int.not_le, ne_eq, Bool.not_eq_true', Bool.not_eq_false', gt_iff_lt, ge_iff_le] at h5
            refine RD.opgv (v' := .d (encL _)) rfl (opv_move rfl) rfl ?_
            refine RD.opgv (v' := .d (encL _)) rfl (opv_move rfl) rfl ?_
            refine RD.opgv (v' := .d (enc _)) rfl (opv_load_term rfl rfl rfl) rfl ?_
            refine RD.opgv (v' := .d (.int _ _)) rfl (opv_move rfl) rfl ?_
            refine RD.opgv (v' := .d (enc _)) rfl (opv_callF (hide_fn (C k) (C_ok hk) t x (by omega)) rfl rfl rfl trivial) rfl ?_
            refine RD.opgv (v' := .d (.int _ _)) rfl (opv_move rfl) rfl ?_
            refine RD.opgv (v' := .d (enc _)) rfl (opv_callF (hide_fn (C k) (C_ok hk) (t.hide (C k) x) y (by omega)) rfl rfl rfl trivial) rfl ?_
            refine RD.opgv (v' := .d (encL _)) rfl (opv_move rfl) rfl ?_
            refine RD.opgv (v' := .d (enc _)) rfl (opv_load_term rfl rfl rfl) rfl ?_
            refine RD.opgv (v' := .d (encL _)) rfl (opv_move rfl) rfl ?_
            refine RD.opgv (v' := .d (.int _ _)) rfl (opv_move rfl) rfl ?_
            refine RD.opgv (v' := .d (.int _ _)) rfl (opv_move rfl) rfl ?_
            refine RD.opgv (v' := .d (.int _ _)) rfl (opv_callF (lmeet_fn (C k) (C_ok hk) _ _) rfl rfl rfl trivial) rfl ?_
            refine RD.opgv (v' := .d (enc _)) rfl (opv_callF (hide_fn (C k) (C_ok hk) t _ (by omega)) rfl rfl rfl trivial) rfl ?_
            refine RD.opgv (v' := .d (.bool _)) rfl (opv_callF (same_fn ((t.hide (C k) x).hide (C k) y) (t.hide (C k) ((C k).meet x y)) (by omega) (by omega)) rfl rfl rfl trivial) rfl ?_
            refine RD.opv (v' := .d (.bool _)) (opv_pick rfl rfl) rfl ?_
            refine RD.opv (v' := .d (.bool _)) (opv_assign rfl) rfl ?_
            refine RD.nil ?_
            refine thenQ_normal ?_
            refine Runs.ret ?_
            refine EndQ.tmp (.inr rfl) rfl rfl 0 (by exact Nat.le_refl _) (by exact Nat.zero_le _) trivial ⟨?_, rfl⟩
            refine bool_eq ?_; rw [hm, hide_hide hk x1.1 x1.2 y1.1 y1.2, same_refl]
          · try simp only [decide_eq_true_eq, decide_eq_false_iff_not, beq_iff_eq, beq_eq_false_iff_ne, bne_iff_ne, bne_eq_false_iff_eq, Int.not_lt, Int.not_le, ne_eq, Bool.not_eq_true', Bool.not_eq_false', gt_iff_lt, ge_iff_le] at h5
            rw [C_top hk, hide_top hk, same_refl] at h5; cases h5
        · try simp only [decide_eq_true_eq, decide_eq_false_iff_not, beq_iff_eq, beq_eq_false_iff_ne, bne_iff_ne, bne_eq_false_iff_eq, Int.not_lt, Int.not_le, ne_eq, Bool.not_eq_true', Bool.not_eq_false', gt_iff_lt, ge_iff_le] at h4
          rw [hide_hide hk x1.1 x1.2 x1.1 x1.2, show min x x = x by omega, same_refl] at h4; cases h4
      · try simp only [decide_eq_true_eq, decide_eq_false_iff_not, beq_iff_eq, beq_eq_false_iff_ne, bne_iff_ne, bne_eq_false_iff_eq, Int.not_lt, Int.not_le, ne_eq, Bool.not_eq_true', Bool.not_eq_false', gt_iff_lt, ge_iff_le] at h3
        have := hide_sj hk x1.1 x1.2 t; rw [C_leq hk, decide_eq_false_iff_not] at h3; omega
end Go.Proofs.Ytklnjmnpkelnkaa.AM
