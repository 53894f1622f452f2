import Derived.Test.YtohncglpjiplaaaL0
namespace Go.Proofs.Ytohncglpjiplaaa.AM
open Go
set_option linter.unusedVariables false
set_option linter.unusedSimpArgs false
theorem checkBounds_fn (n a b c : Int) (g1 : 0 ≤ n) (g1' : n ≤ 255) (g2 : 0 ≤ a) (g2' : a ≤ 255) (g3 : 0 ≤ b) (g3' : b ≤ 255) (g4 : 0 ≤ c) (g4' : c ≤ 255) : Fn Try.prog 5 [.d (.int .u8 n), .d (.int .u8 a), .d (.int .u8 b), .d (.int .u8 c)] [] (.d (.bool true)) [] := by
  obtain ⟨j, hjn⟩ : ∃ j : Nat, (j : Int) = n.tmod 7 := ⟨(n.tmod 7).toNat, by rw [Int.tmod_eq_emod_of_nonneg g1]; omega⟩
  have hj : j < 7 := by rw [Int.tmod_eq_emod_of_nonneg g1] at hjn; omega
  have hrem : n.tmod 7 = (j : Int) := hjn.symm
  obtain ⟨k, hkj⟩ : ∃ k, k = j + 1 := ⟨_, rfl⟩
  have hk : k < 16 := by omega
  have h1k : 1 ≤ k := by omega
  have hn := C_n hk
  obtain ⟨x, x0⟩ : ∃ x : Int, a.tmod ((k + 1 : Nat) : Int) = x := ⟨_, rfl⟩
  have x1 : 0 ≤ x ∧ x ≤ (k : Nat) := by rw [Int.tmod_eq_emod_of_nonneg g2] at x0; have := Int.emod_nonneg a (show ((k + 1 : Nat) : Int) ≠ 0 by omega); have := Int.emod_lt_of_pos a (show (0 : Int) < ((k + 1 : Nat) : Int) by omega); omega
  obtain ⟨y, y0⟩ : ∃ x : Int, b.tmod ((k + 1 : Nat) : Int) = x := ⟨_, rfl⟩
  have y1 : 0 ≤ y ∧ y ≤ (k : Nat) := by rw [Int.tmod_eq_emod_of_nonneg g3] at y0; have := Int.emod_nonneg b (show ((k + 1 : Nat) : Int) ≠ 0 by omega); have := Int.emod_lt_of_pos b (show (0 : Int) < ((k + 1 : Nat) : Int) by omega); omega
  obtain ⟨z, z0⟩ : ∃ x : Int, c.tmod ((k + 1 : Nat) : Int) = x := ⟨_, rfl⟩
  have z1 : 0 ≤ z ∧ z ≤ (k : Nat) := by rw [Int.tmod_eq_emod_of_nonneg g4] at z0; have := Int.emod_nonneg c (show ((k + 1 : Nat) : Int) ≠ 0 by omega); have := Int.emod_lt_of_pos c (show (0 : Int) < ((k + 1 : Nat) : Int) by omega); omega
  have hbd : boundsOk k x.toNat y.toNat z.toNat = true := bounds_at h1k (by omega) (by omega) (by omega) (by omega)
  unfold boundsOk at hbd
  rw [show ((x.toNat : Nat) : Int) = x by omega, show ((y.toNat : Nat) : Int) = y by omega, show ((z.toNat : Nat) : Int) = z by omega] at hbd
  simp only [Bool.and_eq_true, decide_eq_true_eq] at hbd
  obtain ⟨⟨hb1, hb2⟩, hb3⟩ := hbd
  have hfb : bulks [(factT x y)] ≤ 2 ^ 20 := by show 2 + ((0 + 0 + 1) + ((1 + ((0 + ((1 + 0 + 1) + 0) + 1) + 0) + 1) + 0)) + 1 + 0 ≤ _; omega
  refine Does.run Try.func5 rfl Try.ntmps5 rfl fun K hK => ?_
  refine Runs.rseq ?_
  refine RO.opv (v' := .d (.bool false)) (opv_assign rfl) rfl ?_
  refine RO.nil ?_
  refine Runs.rseq ?_
  refine RO.opv (v' := .d (.bool true)) (opv_callF (shown_fn) rfl rfl rfl trivial) rfl ?_
  refine RO.opv (v' := .d (.bool true)) (opv_assign rfl) rfl ?_
  refine RO.nil ?_
  refine Runs.has [(0, .d (.int _ _)), (1, .d (.int _ _)), (2, .d (.int _ _)), (3, .d (.int _ _)), (8, .d (.bool false)), (9, .d (.bool true))] ⟨rfl, rfl, rfl, rfl, rfl, rfl, trivial⟩ ?_
  refine Runs.rseq ?_
  refine RO.opv (v' := .d (.int _ _)) (opv_move rfl) rfl ?_
  refine RO.opv (v' := .d (.int _ _)) (opv_arith (r := (j : Int)) rfl rfl (by simp only [binD, if_true]; rw [if_neg (by decide), hrem])) rfl ?_
  refine RO.opv (v' := .d (.int _ _)) (opv_conv (r := (j : Int)) rfl (wrap64 (by omega) (by omega))) rfl ?_
  refine RO.opv (v' := .d (.int _ _)) (opv_arith (r := ((k + 1 : Nat) : Int)) rfl rfl (by simp only [binD, if_true]; rw [wrap64 (by omega) (by omega)]; congr 2; omega)) rfl ?_
  refine RO.opv (v' := .d (.int _ _)) (opv_assign rfl) rfl ?_
  refine RO.nil ?_
  refine Runs.has [(1, .d (.int _ _)), (2, .d (.int _ _)), (3, .d (.int _ _)), (8, .d (.bool false)), (9, .d (.bool true)), (10, .d (.int _ _))] ⟨rfl, rfl, rfl, rfl, rfl, rfl, trivial⟩ ?_
  refine Runs.rseq ?_
  refine RO.opv (v' := .d (.int _ _)) (opv_move rfl) rfl ?_
  refine RO.opv (v' := .d (.int _ _)) (opv_move rfl) rfl ?_
  refine RO.opv (v' := .d (.list (encPs _))) (opv_callF (chainp_fn k hk) rfl rfl rfl trivial) rfl ?_
  refine RO.opv (opv_callF (lnewC_fn k hk) rfl rfl rfl ⟨trivial, trivial, trivial⟩) rfl ?_
  refine RO.opv (opv_move rfl) rfl ?_
  refine RO.opv (v' := .d (encL _)) (opv_extract rfl rfl) rfl ?_
  refine RO.opv (v' := .d (.int _ _)) (opv_extract rfl rfl) rfl ?_
  refine RO.opv (v' := .d (encL _)) (opv_assign rfl) rfl ?_
  refine RO.opv (v' := .d (.int _ _)) (opv_assign rfl) rfl ?_
  refine RO.nil ?_
  refine Runs.has [(1, .d (.int _ _)), (2, .d (.int _ _)), (3, .d (.int _ _)), (8, .d (.bool false)), (9, .d (.bool true)), (10, .d (.int _ _)), (11, .d (encL _))] ⟨rfl, rfl, rfl, rfl, rfl, rfl, rfl, trivial⟩ ?_
  refine Runs.seq ?_
  refine Runs.rseq ?_
  refine RO.opv (v' := .d (encL _)) (opv_move rfl) rfl ?_
  refine RO.opv (v' := .d (.bool false)) (opv_eqnil rfl rfl rfl) rfl ?_
  refine RO.nil ?_
  refine Runs.condF rfl ?_
  refine Runs.skip ?_
  refine thenQ_normal ?_
  refine Runs.has [(1, .d (.int _ _)), (2, .d (.int _ _)), (3, .d (.int _ _)), (8, .d (.bool false)), (9, .d (.bool true)), (10, .d (.int _ _)), (11, .d (encL _))] ⟨rfl, rfl, rfl, rfl, rfl, rfl, rfl, trivial⟩ ?_
  refine Runs.rseq ?_
  refine RO.opv (v' := .d (.int _ _)) (opv_move rfl) rfl ?_
  refine RO.opv (v' := .d (.int _ _)) (opv_conv (r := a) rfl (wrap64 (by omega) (by omega))) rfl ?_
  refine RO.opv (v' := .d (.int _ _)) (opv_move rfl) rfl ?_
  refine RO.opv (v' := .d (.int _ _)) (opv_arith (r := x) rfl rfl (by simp only [binD, if_true]; rw [if_neg (by omega), x0])) rfl ?_
  refine RO.opv (v' := .d (.int _ _)) (opv_assign rfl) rfl ?_
  refine RO.nil ?_
  refine Runs.has [(2, .d (.int _ _)), (3, .d (.int _ _)), (8, .d (.bool false)), (9, .d (.bool true)), (10, .d (.int _ _)), (11, .d (encL _)), (13, .d (.int _ _))] ⟨rfl, rfl, rfl, rfl, rfl, rfl, rfl, trivial⟩ ?_
  refine Runs.rseq ?_
  refine RO.opv (v' := .d (.int _ _)) (opv_move rfl) rfl ?_
  refine RO.opv (v' := .d (.int _ _)) (opv_conv (r := b) rfl (wrap64 (by omega) (by omega))) rfl ?_
  refine RO.opv (v' := .d (.int _ _)) (opv_move rfl) rfl ?_
  refine RO.opv (v' := .d (.int _ _)) (opv_arith (r := y) rfl rfl (by simp only [binD, if_true]; rw [if_neg (by omega), y0])) rfl ?_
  refine RO.opv (v' := .d (.int _ _)) (opv_assign rfl) rfl ?_
  refine RO.nil ?_
  refine Runs.has [(3, .d (.int _ _)), (8, .d (.bool false)), (9, .d (.bool true)), (10, .d (.int _ _)), (11, .d (encL _)), (13, .d (.int _ _)), (14, .d (.int _ _))] ⟨rfl, rfl, rfl, rfl, rfl, rfl, rfl, trivial⟩ ?_
  refine Runs.rseq ?_
  refine RO.opv (v' := .d (.int _ _)) (opv_move rfl) rfl ?_
  refine RO.opv (v' := .d (.int _ _)) (opv_conv (r := c) rfl (wrap64 (by omega) (by omega))) rfl ?_
  refine RO.opv (v' := .d (.int _ _)) (opv_move rfl) rfl ?_
  refine RO.opv (v' := .d (.int _ _)) (opv_arith (r := z) rfl rfl (by simp only [binD, if_true]; rw [if_neg (by omega), z0])) rfl ?_
  refine RO.opv (v' := .d (.int _ _)) (opv_assign rfl) rfl ?_
  refine RO.nil ?_
  refine Runs.has [(8, .d (.bool false)), (9, .d (.bool true)), (11, .d (encL _)), (13, .d (.int _ _)), (14, .d (.int _ _)), (15, .d (.int _ _))] ⟨rfl, rfl, rfl, rfl, rfl, rfl, trivial⟩ ?_
  refine Runs.rseq ?_
  refine RO.opv (v' := .d (encL _)) (opv_move rfl) rfl ?_
  refine RO.opv (v' := .d (.int _ _)) (opv_move rfl) rfl ?_
  refine RO.opv (v' := .d (enc _)) (opv_callF (num_fn x) rfl rfl rfl trivial) rfl ?_
  refine RO.opv (v' := .d (enc _)) (opv_callF (atom_fn ⟨#[97]⟩) rfl rfl rfl trivial) rfl ?_
  refine RO.opv (v' := .d (.int _ _)) (opv_move rfl) rfl ?_
  refine RO.opv (v' := .d (enc _)) (opv_callF (putS_fn _ _) rfl rfl rfl trivial) rfl ?_
  refine RO.opv (v' := .d (.list (encs _))) (opv_bs_term1 rfl ) rfl ?_
  refine RO.opv (v' := .d (enc _)) (opv_callF (make_fn ⟨#[112]⟩ [putS (.node 3 0 ⟨#[97]⟩ []) y] (Nat.le_of_ble_eq_true rfl)) rfl rfl rfl trivial) rfl ?_
  refine RO.opv (v' := .d (.list (encs _))) (opv_bs_term2 rfl rfl ) rfl ?_
  refine RO.opv (v' := .d (enc _)) (opv_callF (make_fn ncol [.node 2 x ⟨#[]⟩ [], .node 3 0 ⟨#[112]⟩ [putS (.node 3 0 ⟨#[97]⟩ []) y]] (Nat.le_of_ble_eq_true rfl)) rfl rfl rfl trivial) rfl ?_
  refine RO.opv (v' := .d (.list (encs _))) (opv_bs_term1 rfl ) rfl ?_
  refine RO.opv (opv_callF (dnew_fn (C k) (C_ok hk) [(factT x y)] (by omega)) rfl rfl rfl ⟨trivial, trivial, trivial, trivial⟩) rfl ?_
  refine RO.opv (opv_move rfl) rfl ?_
  refine RO.opv (v' := .d (encOB _ _)) (opv_extract rfl rfl) rfl ?_
  refine RO.opv (v' := .d (.int _ _)) (opv_extract rfl rfl) rfl ?_
  refine RO.opv (v' := .d (.int _ _)) (opv_extract rfl rfl) rfl ?_
  refine RO.opv (v' := .d (encOB _ _)) (opv_assign rfl) rfl ?_
  refine RO.opv (v' := .d (.int _ _)) (opv_assign rfl) rfl ?_
  refine RO.opv (v' := .d (.int _ _)) (opv_assign rfl) rfl ?_
  refine RO.nil ?_
  refine Runs.has [(8, .d (.bool false)), (9, .d (.bool true)), (11, .d (encL _)), (13, .d (.int _ _)), (14, .d (.int _ _)), (15, .d (.int _ _)), (16, .d (encOB _ _)), (18, .d (.int _ _))] ⟨rfl, rfl, rfl, rfl, rfl, rfl, rfl, rfl, trivial⟩ ?_
  refine Runs.rseq ?_
  refine RO.opv (v' := .d (encL _)) (opv_move rfl) rfl ?_
  refine RO.opv (v' := .d (encOB _ _)) (opv_move rfl) rfl ?_
  refine RO.opv (v' := .d (.int _ _)) (opv_move rfl) rfl ?_
  refine RO.opv (v' := .d (enc _)) (opv_callF (num_fn z) rfl rfl rfl trivial) rfl ?_
  refine RO.opv (v' := .d (enc _)) (opv_callF (atom_fn ⟨#[120]⟩) rfl rfl rfl trivial) rfl ?_
  refine RO.opv (v' := .d (.list (encs _))) (opv_bs_term2 rfl rfl ) rfl ?_
  refine RO.opv (v' := .d (enc _)) (opv_callF (make_fn bWrite [.node 2 z ⟨#[]⟩ [], .node 3 0 ⟨#[120]⟩ []] (Nat.le_of_ble_eq_true rfl)) rfl rfl rfl trivial) rfl ?_
  refine RO.opv (v' := .d (.list (encs _))) (opv_bs_term1 rfl ) rfl ?_
  refine RO.opv (opv_callF (accept_fn (C k) (C_ok hk) (newB (C k) [(factT x y)]).1 [writeT z] 0 (newB_all_len _ _) (newB_small (by omega)) (Nat.le_of_ble_eq_true rfl)) rfl rfl rfl ⟨trivial, trivial, trivial⟩) rfl ?_
  refine RO.opv (opv_move rfl) rfl ?_
  refine RO.opv (v' := .d (.bool _)) (opv_extract rfl rfl) rfl ?_
  refine RO.opv (v' := .d (.str _)) (opv_extract rfl rfl) rfl ?_
  refine RO.opv (v' := .d (.bool _)) (opv_assign rfl) rfl ?_
  refine RO.opv (v' := .d (.str _)) (opv_assign rfl) rfl ?_
  refine RO.nil ?_
  refine Runs.has [(8, .d (.bool false)), (9, .d (.bool true)), (13, .d (.int _ _)), (14, .d (.int _ _)), (15, .d (.int _ _)), (18, .d (.int _ _)), (19, .d (.bool _)), (20, .d (.str _))] ⟨rfl, rfl, rfl, rfl, rfl, rfl, rfl, rfl, trivial⟩ ?_
  refine Runs.rseq ?_
  refine RO.opv (v' := .d (.bool true)) (opv_move rfl) rfl ?_
  refine RO.opv (v' := .d (.bool true)) (opv_move rfl) rfl ?_
  refine RO.opgv (v' := .d (.int _ _)) rfl (opv_move rfl) rfl ?_
  refine RO.opgv (v' := .d (.bool _)) rfl (opv_bin rfl rfl rfl) rfl ?_
  refine RO.opv (v' := .d (.bool _)) (opv_pick rfl rfl) rfl ?_
  refine RO.opc (opv_move rfl) (fun h1 => ?_) (fun h1 => ?_)
  · skip
    refine RO.opgv (v' := .d (.bool _)) rfl (opv_move rfl) rfl ?_
    refine RO.opgv (v' := .d (.int _ _)) rfl (opv_move rfl) rfl ?_
    refine RO.opgv (v' := .d (.int _ _)) rfl (opv_move rfl) rfl ?_
    refine RO.opgv (v' := .d (.int _ _)) rfl (opv_max (r := max x y) rfl rfl (by split <;> omega)) rfl ?_
    refine RO.opgv (v' := .d (.int _ _)) rfl (opv_move rfl) rfl ?_
    refine RO.opgv (v' := .d (.bool _)) rfl (opv_bin rfl rfl rfl) rfl ?_
    refine RO.opgv (v' := .d (.bool _)) rfl (opv_bool rfl rfl rfl) rfl ?_
    refine RO.opv (v' := .d (.bool _)) (opv_pick rfl rfl) rfl ?_
    refine RO.opc (opv_move rfl) (fun h2 => ?_) (fun h2 => ?_)
    · skip
      refine RO.opgv (v' := .d (.bool _)) rfl (opv_move rfl) rfl ?_
      refine RO.opgc rfl (opv_move rfl) (fun h3 => ?_) (fun h3 => ?_)
      · skip
        have hw := h3
        refine RO.off rfl ?_
        refine RO.off rfl ?_
        refine RO.opgv (v' := .d (.bool true)) rfl (opv_pick rfl rfl) rfl ?_
        refine RO.opv (v' := .d (.bool true)) (opv_pick rfl rfl) rfl ?_
        refine RO.opv (v' := .d (.bool true)) (opv_assign rfl) rfl ?_
        refine RO.nil ?_
        refine Runs.ret ?_
        refine EndQ.tmp (.inr rfl) rfl rfl 0 (by exact Nat.le_refl _) (by exact Nat.zero_le _) trivial ⟨?_, rfl⟩
        first
          | rfl
          | (refine bool_eq ?_; rw [hw, Bool.false_or] at hb3; exact hb3)
      · skip
        have hw := h3
        refine RO.opgv (v' := .d (.str _)) rfl (opv_move rfl) rfl ?_
        refine RO.opgv (v' := .d (.bool _)) rfl (opv_bin rfl rfl rfl) rfl ?_
        refine RO.opgv (v' := .d (.bool _)) rfl (opv_pick rfl rfl) rfl ?_
        refine RO.opv (v' := .d (.bool _)) (opv_pick rfl rfl) rfl ?_
        refine RO.opv (v' := .d (.bool _)) (opv_assign rfl) rfl ?_
        refine RO.nil ?_
        refine Runs.ret ?_
        refine EndQ.tmp (.inr rfl) rfl rfl 0 (by exact Nat.le_refl _) (by exact Nat.zero_le _) trivial ⟨?_, rfl⟩
        first
          | rfl
          | (refine bool_eq ?_; rw [hw, Bool.false_or] at hb3; exact hb3)
    · skip
      rw [hb2] at h2; cases h2
  · skip
    exact absurd hb1 (by simpa using h1)
end Go.Proofs.Ytohncglpjiplaaa.AM
