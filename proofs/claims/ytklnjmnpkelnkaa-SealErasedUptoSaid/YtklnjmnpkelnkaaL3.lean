import Derived.Test.YtklnjmnpkelnkaaL0
namespace Go.Proofs.Ytklnjmnpkelnkaa.AM
open Go
set_option linter.unusedVariables false
set_option linter.unusedSimpArgs false
theorem sealErased_fn (n : Int) (t : Term) (g1 : 0 ≤ n) (g1' : n ≤ 255) (g2 : t.bulk ≤ 2 ^ 20) (_g2' : t.fits) : Fn Try.prog 5 [.d (.int .u8 n), .d (enc t)] [] (.d (.bool true)) [] := by
  obtain ⟨k, hkn⟩ : ∃ k : Nat, (k : Int) = n.tmod 16 := ⟨(n.tmod 16).toNat, by rw [Int.tmod_eq_emod_of_nonneg g1]; omega⟩
  have hk : k < 16 := by rw [Int.tmod_eq_emod_of_nonneg g1] at hkn; omega
  have hn := C_n hk
  have hrem : n.tmod 16 = (k : Int) := hkn.symm
  have bs := sopen_bulk (C k) t
  have be := erase_bulk t
  have rs := sopen_rng hk t
  have rt := sj_rng hk t
  have rx := sj_rng hk (sopen (C k) t).1
  refine Does.run Try.func5 rfl Try.ntmps5 rfl fun K hK => ?_
  refine Runs.rseq ?_
  refine RO.opn (v' := .ref 0 0) (O' := [_]) (opv_box_term rfl) rfl rfl ?_
  refine RO.opv (v' := .d (.bool false)) (opv_assign rfl) rfl ?_
  refine RO.nil ?_
  refine Runs.has [(0, .d (.int _ _)), (3, .ref 0 0), (4, .d (.bool false))] ⟨rfl, rfl, rfl, trivial⟩ ?_
  refine Runs.rseq ?_
  refine RO.opv (v' := .d (.bool true)) (opv_callF (shown_fn) rfl rfl rfl trivial) rfl ?_
  refine RO.opv (v' := .d (.bool true)) (opv_assign rfl) rfl ?_
  refine RO.nil ?_
  refine Runs.has [(0, .d (.int _ _)), (3, .ref 0 0), (4, .d (.bool false)), (5, .d (.bool true))] ⟨rfl, rfl, rfl, rfl, trivial⟩ ?_
  refine Runs.rseq ?_
  refine RO.opv (v' := .d (.int _ _)) (opv_move rfl) rfl ?_
  refine RO.opv (v' := .d (.int _ _)) (opv_arith (r := (k : Int)) rfl rfl (by simp only [binD, if_true]; rw [if_neg (by decide), hrem])) rfl ?_
  refine RO.opv (v' := .d (.int _ _)) (opv_conv (r := (k : Int)) rfl (wrap64 (by omega) (by omega))) rfl ?_
  refine RO.opv (v' := .d (.int _ _)) (opv_arith (r := ((k + 1 : Nat) : Int)) rfl rfl (by simp only [binD, if_true]; rw [wrap64 (by omega) (by omega)]; congr 2; omega)) rfl ?_
  refine RO.opv (v' := .d (encL _)) (opv_callF (chain_fn k hk) rfl rfl rfl trivial) rfl ?_
  refine RO.opv (v' := .d (encL _)) (opv_assign rfl) rfl ?_
  refine RO.nil ?_
  refine Runs.has [(3, .ref 0 0), (4, .d (.bool false)), (5, .d (.bool true)), (6, .d (encL _))] ⟨rfl, rfl, rfl, rfl, trivial⟩ ?_
  refine Runs.seq ?_
  refine Runs.seq ?_
  refine Runs.drawn (by kernel_rfl) [] [false, false, false, false, false, false, false, false, false, false, false, false, false, false] [false, false, false, false, false, false, false, false, false, false, false, false, false, false] (by decide +kernel) ?_
  refine RD.opv (v' := .d (enc _)) (opv_load_term rfl rfl rfl) rfl ?_
  refine RD.opv (v' := .d (.bool _)) (opv_callF (few_fn t (by omega)) rfl rfl rfl trivial) rfl ?_
  refine RD.opv (v' := .d (.bool _)) (opv_not rfl rfl) rfl ?_
  refine RD.opc (opv_move rfl) (fun h1 => ?_) (fun h1 => ?_)
  · try simp only [decide_eq_true_eq, decide_eq_false_iff_not, beq_iff_eq, beq_eq_false_iff_ne, bne_iff_ne, bne_eq_false_iff_eq, Int.not_lt, Int.not_le, ne_eq, Bool.not_eq_true', Bool.not_eq_false', gt_iff_lt, ge_iff_le] at h1
    refine RD.off rfl ?_
    refine RD.off rfl ?_
    refine RD.opv (v' := .d (.bool true)) (opv_pick rfl rfl) rfl ?_
    refine RD.opv (v' := .d (.bool true)) (opv_move rfl) rfl ?_
    refine RD.off rfl ?_
    refine RD.off rfl ?_
    refine RD.off rfl ?_
    refine RD.off rfl ?_
    refine RD.off rfl ?_
    refine RD.opv (v' := .d (.bool true)) (opv_pick rfl rfl) rfl ?_
    refine RD.nil ?_
    refine thenQ_normal ?_
    refine Runs.condT rfl ?_
    refine Runs.has [(3, .ref 0 0), (4, .d (.bool false)), (5, .d (.bool true)), (6, .d (encL _))] ⟨rfl, rfl, rfl, rfl, trivial⟩ ?_
    refine Runs.rseq ?_
    refine RO.opv (v' := .d (.bool true)) (opv_move rfl) rfl ?_
    refine RO.opv (v' := .d (.bool true)) (opv_move rfl) rfl ?_
    refine RO.opgv (v' := .d (encL _)) rfl (opv_move rfl) rfl ?_
    refine RO.opgv (v' := .d (.bool true)) rfl (opv_nenil rfl rfl rfl) rfl ?_
    refine RO.opv (v' := .d (.bool true)) (opv_pick rfl rfl) rfl ?_
    refine RO.opv (v' := .d (.bool true)) (opv_assign rfl) rfl ?_
    refine RO.nil ?_
    refine Runs.ret ?_
    refine thenQ_ret ?_
    refine EndQ.tmp (.inr rfl) rfl rfl 0 (by exact Nat.le_refl _) (by exact Nat.zero_le _) trivial ⟨?_, rfl⟩
    rfl
  · try simp only [decide_eq_true_eq, decide_eq_false_iff_not, beq_iff_eq, beq_eq_false_iff_ne, bne_iff_ne, bne_eq_false_iff_eq, Int.not_lt, Int.not_le, ne_eq, Bool.not_eq_true', Bool.not_eq_false', gt_iff_lt, ge_iff_le] at h1
    refine RD.opgv (v' := .d (encL _)) rfl (opv_move rfl) rfl ?_
    refine RD.opgv (v' := .d (.bool false)) rfl (opv_eqnil rfl rfl rfl) rfl ?_
    refine RD.opv (v' := .d (.bool false)) (opv_pick rfl rfl) rfl ?_
    refine RD.opv (v' := .d (.bool false)) (opv_move rfl) rfl ?_
    refine RD.opgv (v' := .d (enc _)) rfl (opv_load_term rfl rfl rfl) rfl ?_
    refine RD.opgv (v' := .d (encL _)) rfl (opv_move rfl) rfl ?_
    refine RD.opgv (v' := .d (.int _ _)) rfl (opv_callF (llen_fn (C k)) rfl rfl rfl trivial) rfl ?_
    refine RD.opgv (v' := .d (.int _ _)) rfl (opv_callF (check_fn t ((C k).n : Nat) (by omega)) rfl rfl rfl trivial) rfl ?_
    refine RD.opgv (v' := .d (.bool _)) rfl (opv_bin rfl rfl rfl) rfl ?_
    refine RD.opc (opv_pick rfl rfl) (fun h2 => ?_) (fun h2 => ?_)
    · try simp only [decide_eq_true_eq, decide_eq_false_iff_not, beq_iff_eq, beq_eq_false_iff_ne, bne_iff_ne, bne_eq_false_iff_eq, Int.not_lt, Int.not_le, ne_eq, Bool.not_eq_true', Bool.not_eq_false', gt_iff_lt, ge_iff_le] at h2
      skip
      refine RD.nil ?_
      refine thenQ_normal ?_
      refine Runs.condT rfl ?_
      refine Runs.has [(3, .ref 0 0), (4, .d (.bool false)), (5, .d (.bool true)), (6, .d (encL _))] ⟨rfl, rfl, rfl, rfl, trivial⟩ ?_
      refine Runs.rseq ?_
      refine RO.opv (v' := .d (.bool true)) (opv_move rfl) rfl ?_
      refine RO.opv (v' := .d (.bool true)) (opv_move rfl) rfl ?_
      refine RO.opgv (v' := .d (encL _)) rfl (opv_move rfl) rfl ?_
      refine RO.opgv (v' := .d (.bool true)) rfl (opv_nenil rfl rfl rfl) rfl ?_
      refine RO.opv (v' := .d (.bool true)) (opv_pick rfl rfl) rfl ?_
      refine RO.opv (v' := .d (.bool true)) (opv_assign rfl) rfl ?_
      refine RO.nil ?_
      refine Runs.ret ?_
      refine thenQ_ret ?_
      refine EndQ.tmp (.inr rfl) rfl rfl 0 (by exact Nat.le_refl _) (by exact Nat.zero_le _) trivial ⟨?_, rfl⟩
      rfl
    · try simp only [decide_eq_true_eq, decide_eq_false_iff_not, beq_iff_eq, beq_eq_false_iff_ne, bne_iff_ne, bne_eq_false_iff_eq, Int.not_lt, Int.not_le, ne_eq, Bool.not_eq_true', Bool.not_eq_false', gt_iff_lt, ge_iff_le] at h2
      have hf := fine_check h2
      refine RD.nil ?_
      refine thenQ_normal ?_
      refine Runs.condF rfl ?_
      refine Runs.skip ?_
      refine thenQ_normal ?_
      refine Runs.has [(3, .ref 0 0), (4, .d (.bool false)), (5, .d (.bool true)), (6, .d (encL _))] ⟨rfl, rfl, rfl, rfl, trivial⟩ ?_
      refine Runs.rseq ?_
      refine RO.opv (v' := .d (encL _)) (opv_move rfl) rfl ?_
      refine RO.opv (v' := .d (enc _)) (opv_load_term rfl rfl rfl) rfl ?_
      refine RO.opv (opv_callF (sopen_fn (C k) (C_ok hk) t (by omega)) rfl rfl rfl ⟨trivial, trivial, trivial⟩) rfl ?_
      refine RO.opv (opv_move rfl) rfl ?_
      refine RO.opv (v' := .d (enc _)) (opv_extract rfl rfl) rfl ?_
      refine RO.opv (v' := .d (.int _ _)) (opv_extract rfl rfl) rfl ?_
      refine RO.opn (v' := .ref 1 0) (O' := [_, _]) (opv_alloc) rfl rfl ?_
      refine RO.op0n (O' := [_, _]) (opv_store_term rfl rfl rfl (Nat.le_of_ble_eq_true rfl)) rfl ?_
      refine RO.opv (v' := .d (.int _ _)) (opv_assign rfl) rfl ?_
      refine RO.nil ?_
      refine Runs.has [(3, .ref 0 0), (4, .d (.bool false)), (5, .d (.bool true)), (6, .d (encL _)), (7, .ref 1 0), (8, .d (.int _ _))] ⟨rfl, rfl, rfl, rfl, rfl, rfl, trivial⟩ ?_
      refine Runs.rseq ?_
      refine RO.opv (v' := .d (enc _)) (opv_load_term rfl rfl rfl) rfl ?_
      refine RO.opv (v' := .d (enc _)) (opv_callF (erase_fn t (by omega)) rfl rfl rfl trivial) rfl ?_
      refine RO.opn (v' := .ref 2 0) (O' := [_, _, _]) (opv_alloc) rfl rfl ?_
      refine RO.op0n (O' := [_, _, _]) (opv_store_term rfl rfl rfl (Nat.le_of_ble_eq_true rfl)) rfl ?_
      refine RO.nil ?_
      refine Runs.has [(3, .ref 0 0), (4, .d (.bool false)), (5, .d (.bool true)), (6, .d (encL _)), (7, .ref 1 0), (8, .d (.int _ _)), (9, .ref 2 0)] ⟨rfl, rfl, rfl, rfl, rfl, rfl, rfl, trivial⟩ ?_
      refine Runs.rseq ?_
      refine RO.opv (v' := .d (encL _)) (opv_move rfl) rfl ?_
      refine RO.opv (v' := .d (enc _)) (opv_load_term rfl rfl rfl) rfl ?_
      refine RO.opv (v' := .d (.int _ _)) (opv_callF (sjoin_fn (C k) (C_ok hk) t (by omega)) rfl rfl rfl trivial) rfl ?_
      refine RO.opv (v' := .d (.int _ _)) (opv_assign rfl) rfl ?_
      refine RO.nil ?_
      refine Runs.has [(3, .ref 0 0), (4, .d (.bool false)), (5, .d (.bool true)), (6, .d (encL _)), (7, .ref 1 0), (8, .d (.int _ _)), (9, .ref 2 0), (10, .d (.int _ _))] ⟨rfl, rfl, rfl, rfl, rfl, rfl, rfl, rfl, trivial⟩ ?_
      refine Runs.seq ?_
      refine Runs.drawn (by kernel_rfl) [] [false, false, false, false, false, false, false, false, false, false, false, false, false, false, false, false, false, false, false, false, false, false, false, false, false, false, false, false, false, false, false, false, false, false, false, false, false, false, false, false, false, false, false, false, false, false, false, false, false, false] [false, false, false, false, false, false, false, false, false, false, false, false, false, false, false, false, false, false, false, false, false, false, false, false, false, false, false, false, false, false, false, false, false, false, false, false, false, false, false, false, false, false, false, false, false, false, false, false, false, false] (by decide +kernel) ?_
      refine RD.opv (v' := .d (.bool true)) (opv_move rfl) rfl ?_
      refine RD.opv (v' := .d (.bool true)) (opv_move rfl) rfl ?_
      refine RD.opgv (v' := .d (enc _)) rfl (opv_load_term rfl rfl rfl) rfl ?_
      refine RD.opgv (v' := .d (enc _)) rfl (opv_callF (erase_fn (sopen (C k) t).1 (by omega)) rfl rfl rfl trivial) rfl ?_
      refine RD.opgv (v' := .d (enc _)) rfl (opv_load_term rfl rfl rfl) rfl ?_
      refine RD.opgv (v' := .d (.bool _)) rfl (opv_callF (same_fn (sopen (C k) t).1.erase t.erase (by rw [sopen_erase]; omega) (by omega)) rfl rfl rfl trivial) rfl ?_
      refine RD.opv (v' := .d (.bool _)) (opv_pick rfl rfl) rfl ?_
      refine RD.opc (opv_move rfl) (fun h3 => ?_) (fun h3 => ?_)
      · try simp only [decide_eq_true_eq, decide_eq_false_iff_not, beq_iff_eq, beq_eq_false_iff_ne, bne_iff_ne, bne_eq_false_iff_eq, Int.not_lt, Int.not_le, ne_eq, Bool.not_eq_true', Bool.not_eq_false', gt_iff_lt, ge_iff_le] at h3
        refine RD.opgv (v' := .d (encL _)) rfl (opv_move rfl) rfl ?_
        refine RD.opgv (v' := .d (.int _ _)) rfl (opv_move rfl) rfl ?_
        refine RD.opgv (v' := .d (.int _ _)) rfl (opv_move rfl) rfl ?_
        refine RD.opgv (v' := .d (.bool _)) rfl (opv_callF (leq_fn (C k) (C_ok hk) _ _) rfl rfl rfl trivial) rfl ?_
        refine RD.opv (v' := .d (.bool _)) (opv_pick rfl rfl) rfl ?_
        refine RD.opc (opv_move rfl) (fun h4 => ?_) (fun h4 => ?_)
        · try simp only [decide_eq_true_eq, decide_eq_false_iff_not, beq_iff_eq, beq_eq_false_iff_ne, bne_iff_ne, bne_eq_false_iff_eq, Int.not_lt, Int.not_le, ne_eq, Bool.not_eq_true', Bool.not_eq_false', gt_iff_lt, ge_iff_le] at h4
          refine RD.opgv (v' := .d (encL _)) rfl (opv_move rfl) rfl ?_
          refine RD.opgv (v' := .d (.int _ _)) rfl (opv_move rfl) rfl ?_
          refine RD.opgv (v' := .d (encL _)) rfl (opv_move rfl) rfl ?_
          refine RD.opgv (v' := .d (enc _)) rfl (opv_load_term rfl rfl rfl) rfl ?_
          refine RD.opgv (v' := .d (.int _ _)) rfl (opv_callF (sjoin_fn (C k) (C_ok hk) (sopen (C k) t).1 (by omega)) rfl rfl rfl trivial) rfl ?_
          refine RD.opgv (v' := .d (.int _ _)) rfl (opv_callF (ljoin_fn (C k) (C_ok hk) _ _) rfl rfl rfl trivial) rfl ?_
          refine RD.opgv (v' := .d (.int _ _)) rfl (opv_move rfl) rfl ?_
          refine RD.opgv (v' := .d (.bool _)) rfl (opv_bin rfl rfl rfl) rfl ?_
          refine RD.opv (v' := .d (.bool _)) (opv_pick rfl rfl) rfl ?_
          refine RD.opc (opv_move rfl) (fun h5 => ?_) (fun h5 => ?_)
          · try simp only [decide_eq_true_eq, decide_eq_false_iff_not, beq_iff_eq, beq_eq_false_iff_ne, bne_iff_ne, bne_eq_false_iff_eq, Int.not_lt, Int.not_le, ne_eq, Bool.not_eq_true', Bool.not_eq_false', gt_iff_lt, ge_iff_le] at h5
            refine RD.opgv (v' := .d (encL _)) rfl (opv_move rfl) rfl ?_
            refine RD.opgv (v' := .d (enc _)) rfl (opv_load_term rfl rfl rfl) rfl ?_
            refine RD.opgv (v' := .d (.int _ _)) rfl (opv_callF (sjoin_fn (C k) (C_ok hk) t.erase (by omega)) rfl rfl rfl trivial) rfl ?_
            refine RD.opgv (v' := .d (encL _)) rfl (opv_move rfl) rfl ?_
            refine RD.opgv (v' := .d (.int _ _)) rfl (opv_callF (lbot_fn (C k) (C_ok hk)) rfl rfl rfl trivial) rfl ?_
            refine RD.opgv (v' := .d (.bool _)) rfl (opv_bin rfl rfl rfl) rfl ?_
            refine RD.opv (v' := .d (.bool _)) (opv_pick rfl rfl) rfl ?_
            refine RD.opc (opv_move rfl) (fun h6 => ?_) (fun h6 => ?_)
            · try simp only [decide_eq_true_eq, decide_eq_false_iff_not, beq_iff_eq, beq_eq_false_iff_ne, bne_iff_ne, bne_eq_false_iff_eq, Int.not_lt, Int.not_le, ne_eq, Bool.not_eq_true', Bool.not_eq_false', gt_iff_lt, ge_iff_le] at h6
              refine RD.opgv (v' := .d (enc _)) rfl (opv_load_term rfl rfl rfl) rfl ?_
              refine RD.opgv (v' := .d (enc _)) rfl (opv_callF (erase_fn t.erase (by omega)) rfl rfl rfl trivial) rfl ?_
              refine RD.opgv (v' := .d (enc _)) rfl (opv_load_term rfl rfl rfl) rfl ?_
              refine RD.opgv (v' := .d (.bool _)) rfl (opv_callF (same_fn t.erase.erase t.erase (by rw [erase_erase]; omega) (by omega)) rfl rfl rfl trivial) rfl ?_
              refine RD.opv (v' := .d (.bool _)) (opv_pick rfl rfl) rfl ?_
              refine RD.opc (opv_move rfl) (fun h7 => ?_) (fun h7 => ?_)
              · try simp only [decide_eq_true_eq, decide_eq_false_iff_not, beq_iff_eq, beq_eq_false_iff_ne, bne_iff_ne, bne_eq_false_iff_eq, Int.not_lt, Int.not_le, ne_eq, Bool.not_eq_true', Bool.not_eq_false', gt_iff_lt, ge_iff_le] at h7
                refine RD.opgv (v' := .d (enc _)) rfl (opv_load_term rfl rfl rfl) rfl ?_
                refine RD.opgv (v' := .d (.int _ _)) rfl (opv_callF (size_fn t.erase (by omega)) rfl rfl rfl trivial) rfl ?_
                refine RD.opgv (v' := .d (enc _)) rfl (opv_load_term rfl rfl rfl) rfl ?_
                refine RD.opgv (v' := .d (.int _ _)) rfl (opv_callF (size_fn t (by omega)) rfl rfl rfl trivial) rfl ?_
                refine RD.opgv (v' := .d (.bool _)) rfl (opv_bin rfl rfl rfl) rfl ?_
                refine RD.opv (v' := .d (.bool _)) (opv_pick rfl rfl) rfl ?_
                refine RD.opc (opv_move rfl) (fun h8 => ?_) (fun h8 => ?_)
                · try simp only [decide_eq_true_eq, decide_eq_false_iff_not, beq_iff_eq, beq_eq_false_iff_ne, bne_iff_ne, bne_eq_false_iff_eq, Int.not_lt, Int.not_le, ne_eq, Bool.not_eq_true', Bool.not_eq_false', gt_iff_lt, ge_iff_le] at h8
                  refine RD.opgv (v' := .ref 1 0) rfl (opv_field_ref rfl rfl) rfl ?_
                  refine RD.opgv (v' := .d (.int _ _)) rfl (opv_load_ref rfl rfl rfl) rfl ?_
                  refine RD.opgv (v' := .d (.bool _)) rfl (opv_bin rfl rfl rfl) rfl ?_
                  refine RD.opv (v' := .d (.bool _)) (opv_pick rfl rfl) rfl ?_
                  refine RD.opv (v' := .d (.bool _)) (opv_assign rfl) rfl ?_
                  refine RD.nil ?_
                  refine thenQ_normal ?_
                  refine Runs.ret ?_
                  refine EndQ.tmp (.inr rfl) rfl rfl 0 (by exact Nat.le_refl _) (by exact Nat.zero_le _) trivial ⟨?_, rfl⟩
                  refine bool_eq ?_; have := sopen_kind (C k) hf; simpa using this
                · try simp only [decide_eq_true_eq, decide_eq_false_iff_not, beq_iff_eq, beq_eq_false_iff_ne, bne_iff_ne, bne_eq_false_iff_eq, Int.not_lt, Int.not_le, ne_eq, Bool.not_eq_true', Bool.not_eq_false', gt_iff_lt, ge_iff_le] at h8
                  have := erase_size t; omega
              · try simp only [decide_eq_true_eq, decide_eq_false_iff_not, beq_iff_eq, beq_eq_false_iff_ne, bne_iff_ne, bne_eq_false_iff_eq, Int.not_lt, Int.not_le, ne_eq, Bool.not_eq_true', Bool.not_eq_false', gt_iff_lt, ge_iff_le] at h7
                rw [erase_erase, same_refl] at h7; cases h7
            · try simp only [decide_eq_true_eq, decide_eq_false_iff_not, beq_iff_eq, beq_eq_false_iff_ne, bne_iff_ne, bne_eq_false_iff_eq, Int.not_lt, Int.not_le, ne_eq, Bool.not_eq_true', Bool.not_eq_false', gt_iff_lt, ge_iff_le] at h6
              rw [C_bot hk] at h6; exact absurd (sj_fine_zero hk t hf) h6
          · try simp only [decide_eq_true_eq, decide_eq_false_iff_not, beq_iff_eq, beq_eq_false_iff_ne, bne_iff_ne, bne_eq_false_iff_eq, Int.not_lt, Int.not_le, ne_eq, Bool.not_eq_true', Bool.not_eq_false', gt_iff_lt, ge_iff_le] at h5
            have := sopen_sj hk hf; rw [C_join hk rs.1 rs.2 rx.1 rx.2] at h5; omega
        · try simp only [decide_eq_true_eq, decide_eq_false_iff_not, beq_iff_eq, beq_eq_false_iff_ne, bne_iff_ne, bne_eq_false_iff_eq, Int.not_lt, Int.not_le, ne_eq, Bool.not_eq_true', Bool.not_eq_false', gt_iff_lt, ge_iff_le] at h4
          have := sopen_sj hk hf; rw [C_leq hk, decide_eq_false_iff_not] at h4; omega
      · try simp only [decide_eq_true_eq, decide_eq_false_iff_not, beq_iff_eq, beq_eq_false_iff_ne, bne_iff_ne, bne_eq_false_iff_eq, Int.not_lt, Int.not_le, ne_eq, Bool.not_eq_true', Bool.not_eq_false', gt_iff_lt, ge_iff_le] at h3
        rw [sopen_erase, same_refl] at h3; cases h3
end Go.Proofs.Ytklnjmnpkelnkaa.AM
