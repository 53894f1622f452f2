import Derived.Test.YtklnjmnpkelnkaaL0
namespace Go.Proofs.Ytklnjmnpkelnkaa.AM
open Go
set_option linter.unusedVariables false
set_option linter.unusedSimpArgs false
theorem sealPuts_fn (n : Int) (t : Term) (a : Int) (g1 : 0 ≤ n) (g1' : n ≤ 255) (g2 : t.bulk ≤ 2 ^ 20) (_g2' : t.fits) (g3 : 0 ≤ a) (g3' : a ≤ 255) : Fn Try.prog 6 [.d (.int .u8 n), .d (enc t), .d (.int .u8 a)] [] (.d (.bool true)) [] := by
  obtain ⟨k, hkn⟩ : ∃ k : Nat, (k : Int) = n.tmod 16 := ⟨(n.tmod 16).toNat, by rw [Int.tmod_eq_emod_of_nonneg g1]; omega⟩
  have hk : k < 16 := by rw [Int.tmod_eq_emod_of_nonneg g1] at hkn; omega
  have hn := C_n hk
  have hrem : n.tmod 16 = (k : Int) := hkn.symm
  obtain ⟨x, x0⟩ : ∃ x : Int, a.tmod (C k).n = x := ⟨_, rfl⟩
  have x1 : 0 ≤ x ∧ x ≤ (k : Nat) := by rw [hn, Int.tmod_eq_emod_of_nonneg g3] at x0; have := Int.emod_nonneg a (show (k : Int) + 1 ≠ 0 by omega); have := Int.emod_lt_of_pos a (show (0 : Int) < (k : Int) + 1 by omega); omega
  have pb : (putS t x).bulk = 0 + (t.bulk + 0) + 1 := rfl
  have bs := sopen_bulk (C k) (putS t x)
  have hL := bulks_len (sopen (C k) (putS t x)).1.kids
  have hU := (sopen (C k) (putS t x)).1.bulk_kids
  have rt := sj_rng hk t
  have hsp := sopen_put hk t x1.1 x1.2
  have heb := erase_bulk t
  refine Does.run Try.func6 rfl Try.ntmps6 rfl fun K hK => ?_
  refine Runs.rseq ?_
  refine RO.opn (v' := .ref 0 0) (O' := [_]) (opv_box_term rfl) rfl rfl ?_
  refine RO.opv (v' := .d (.bool false)) (opv_assign rfl) rfl ?_
  refine RO.nil ?_
  refine Runs.has [(0, .d (.int _ _)), (2, .d (.int _ _)), (4, .ref 0 0), (6, .d (.bool false))] ⟨rfl, rfl, rfl, rfl, trivial⟩ ?_
  refine Runs.rseq ?_
  refine RO.opv (v' := .d (.bool true)) (opv_callF (shown_fn) rfl rfl rfl trivial) rfl ?_
  refine RO.opv (v' := .d (.bool true)) (opv_assign rfl) rfl ?_
  refine RO.nil ?_
  refine Runs.has [(0, .d (.int _ _)), (2, .d (.int _ _)), (4, .ref 0 0), (6, .d (.bool false)), (7, .d (.bool true))] ⟨rfl, rfl, rfl, rfl, rfl, trivial⟩ ?_
  refine Runs.rseq ?_
  refine RO.opv (v' := .d (.int _ _)) (opv_move rfl) rfl ?_
  refine RO.opv (v' := .d (.int _ _)) (opv_arith (r := (k : Int)) rfl rfl (by simp only [binD, if_true]; rw [if_neg (by decide), hrem])) rfl ?_
  refine RO.opv (v' := .d (.int _ _)) (opv_conv (r := (k : Int)) rfl (wrap64 (by omega) (by omega))) rfl ?_
  refine RO.opv (v' := .d (.int _ _)) (opv_arith (r := ((k + 1 : Nat) : Int)) rfl rfl (by simp only [binD, if_true]; rw [wrap64 (by omega) (by omega)]; congr 2; omega)) rfl ?_
  refine RO.opv (v' := .d (encL _)) (opv_callF (chain_fn k hk) rfl rfl rfl trivial) rfl ?_
  refine RO.opv (v' := .d (encL _)) (opv_assign rfl) rfl ?_
  refine RO.nil ?_
  refine Runs.has [(2, .d (.int _ _)), (4, .ref 0 0), (6, .d (.bool false)), (7, .d (.bool true)), (8, .d (encL _))] ⟨rfl, rfl, rfl, rfl, rfl, trivial⟩ ?_
  refine Runs.seq ?_
  refine Runs.seq ?_
  refine Runs.drawn (by kernel_rfl) [] [false, false, false, false, false, false, false, false, false, false, false, false, false, false] [false, false, false, false, false, false, false, false, false, false, false, false, false, false] (by decide +kernel) ?_
  refine RD.opv (v' := .d (enc _)) (opv_load_term rfl rfl rfl) rfl ?_
  refine RD.opv (v' := .d (.bool _)) (opv_callF (few_fn t (by omega)) rfl rfl rfl trivial) rfl ?_
  refine RD.opv (v' := .d (.bool _)) (opv_not rfl rfl) rfl ?_
  refine RD.opc (opv_move rfl) (fun h1 => ?_) (fun h1 => ?_)
  · try simp only [decide_eq_true_eq, decide_eq_false_iff_not, beq_iff_eq, beq_eq_false_iff_ne, bne_iff_ne, bne_eq_false_iff_eq, Int.not_lt, Int.not_le, ne_eq, Bool.not_eq_true', Bool.not_eq_false', gt_iff_lt, ge_iff_le] at h1
    refine RD.off rfl ?_
    refine RD.off rfl ?_
    refine RD.opv (v' := .d (.bool true)) (opv_pick rfl rfl) rfl ?_
    refine RD.opv (v' := .d (.bool true)) (opv_move rfl) rfl ?_
    refine RD.off rfl ?_
    refine RD.off rfl ?_
    refine RD.off rfl ?_
    refine RD.off rfl ?_
    refine RD.off rfl ?_
    refine RD.opv (v' := .d (.bool true)) (opv_pick rfl rfl) rfl ?_
    refine RD.nil ?_
    refine thenQ_normal ?_
    refine Runs.condT rfl ?_
    refine Runs.has [(2, .d (.int _ _)), (4, .ref 0 0), (6, .d (.bool false)), (7, .d (.bool true)), (8, .d (encL _))] ⟨rfl, rfl, rfl, rfl, rfl, trivial⟩ ?_
    refine Runs.rseq ?_
    refine RO.opv (v' := .d (.bool true)) (opv_move rfl) rfl ?_
    refine RO.opv (v' := .d (.bool true)) (opv_move rfl) rfl ?_
    refine RO.opgv (v' := .d (encL _)) rfl (opv_move rfl) rfl ?_
    refine RO.opgv (v' := .d (.bool true)) rfl (opv_nenil rfl rfl rfl) rfl ?_
    refine RO.opv (v' := .d (.bool true)) (opv_pick rfl rfl) rfl ?_
    refine RO.opv (v' := .d (.bool true)) (opv_assign rfl) rfl ?_
    refine RO.nil ?_
    refine Runs.ret ?_
    refine thenQ_ret ?_
    refine EndQ.tmp (.inr rfl) rfl rfl 0 (by exact Nat.le_refl _) (by exact Nat.zero_le _) trivial ⟨?_, rfl⟩
    rfl
  · try simp only [decide_eq_true_eq, decide_eq_false_iff_not, beq_iff_eq, beq_eq_false_iff_ne, bne_iff_ne, bne_eq_false_iff_eq, Int.not_lt, Int.not_le, ne_eq, Bool.not_eq_true', Bool.not_eq_false', gt_iff_lt, ge_iff_le] at h1
    refine RD.opgv (v' := .d (encL _)) rfl (opv_move rfl) rfl ?_
    refine RD.opgv (v' := .d (.bool false)) rfl (opv_eqnil rfl rfl rfl) rfl ?_
    refine RD.opv (v' := .d (.bool false)) (opv_pick rfl rfl) rfl ?_
    refine RD.opv (v' := .d (.bool false)) (opv_move rfl) rfl ?_
    refine RD.opgv (v' := .d (enc _)) rfl (opv_load_term rfl rfl rfl) rfl ?_
    refine RD.opgv (v' := .d (encL _)) rfl (opv_move rfl) rfl ?_
    refine RD.opgv (v' := .d (.int _ _)) rfl (opv_callF (llen_fn (C k)) rfl rfl rfl trivial) rfl ?_
    refine RD.opgv (v' := .d (.int _ _)) rfl (opv_callF (check_fn t ((C k).n : Nat) (by omega)) rfl rfl rfl trivial) rfl ?_
    refine RD.opgv (v' := .d (.bool _)) rfl (opv_bin rfl rfl rfl) rfl ?_
    refine RD.opc (opv_pick rfl rfl) (fun h2 => ?_) (fun h2 => ?_)
    · try simp only [decide_eq_true_eq, decide_eq_false_iff_not, beq_iff_eq, beq_eq_false_iff_ne, bne_iff_ne, bne_eq_false_iff_eq, Int.not_lt, Int.not_le, ne_eq, Bool.not_eq_true', Bool.not_eq_false', gt_iff_lt, ge_iff_le] at h2
      skip
      refine RD.nil ?_
      refine thenQ_normal ?_
      refine Runs.condT rfl ?_
      refine Runs.has [(2, .d (.int _ _)), (4, .ref 0 0), (6, .d (.bool false)), (7, .d (.bool true)), (8, .d (encL _))] ⟨rfl, rfl, rfl, rfl, rfl, trivial⟩ ?_
      refine Runs.rseq ?_
      refine RO.opv (v' := .d (.bool true)) (opv_move rfl) rfl ?_
      refine RO.opv (v' := .d (.bool true)) (opv_move rfl) rfl ?_
      refine RO.opgv (v' := .d (encL _)) rfl (opv_move rfl) rfl ?_
      refine RO.opgv (v' := .d (.bool true)) rfl (opv_nenil rfl rfl rfl) rfl ?_
      refine RO.opv (v' := .d (.bool true)) (opv_pick rfl rfl) rfl ?_
      refine RO.opv (v' := .d (.bool true)) (opv_assign rfl) rfl ?_
      refine RO.nil ?_
      refine Runs.ret ?_
      refine thenQ_ret ?_
      refine EndQ.tmp (.inr rfl) rfl rfl 0 (by exact Nat.le_refl _) (by exact Nat.zero_le _) trivial ⟨?_, rfl⟩
      rfl
    · try simp only [decide_eq_true_eq, decide_eq_false_iff_not, beq_iff_eq, beq_eq_false_iff_ne, bne_iff_ne, bne_eq_false_iff_eq, Int.not_lt, Int.not_le, ne_eq, Bool.not_eq_true', Bool.not_eq_false', gt_iff_lt, ge_iff_le] at h2
      have hf := fine_check h2
      refine RD.nil ?_
      refine thenQ_normal ?_
      refine Runs.condF rfl ?_
      refine Runs.skip ?_
      refine thenQ_normal ?_
      refine Runs.has [(2, .d (.int _ _)), (4, .ref 0 0), (6, .d (.bool false)), (7, .d (.bool true)), (8, .d (encL _))] ⟨rfl, rfl, rfl, rfl, rfl, trivial⟩ ?_
      refine Runs.rseq ?_
      refine RO.opv (v' := .d (.int _ _)) (opv_move rfl) rfl ?_
      refine RO.opv (v' := .d (.int _ _)) (opv_conv (r := a) rfl (wrap64 (by omega) (by omega))) rfl ?_
      refine RO.opv (v' := .d (encL _)) (opv_move rfl) rfl ?_
      refine RO.opv (v' := .d (.int _ _)) (opv_callF (llen_fn (C k)) rfl rfl rfl trivial) rfl ?_
      refine RO.opv (v' := .d (.int _ _)) (opv_arith (r := x) rfl rfl (by simp only [binD, if_true]; rw [if_neg (by omega), x0])) rfl ?_
      refine RO.opv (v' := .d (.int _ _)) (opv_assign rfl) rfl ?_
      refine RO.nil ?_
      refine Runs.has [(4, .ref 0 0), (6, .d (.bool false)), (7, .d (.bool true)), (8, .d (encL _)), (9, .d (.int _ _))] ⟨rfl, rfl, rfl, rfl, rfl, trivial⟩ ?_
      refine Runs.rseq ?_
      refine RO.opv (v' := .d (enc _)) (opv_load_term rfl rfl rfl) rfl ?_
      refine RO.opv (v' := .d (.int _ _)) (opv_move rfl) rfl ?_
      refine RO.opv (v' := .d (enc _)) (opv_callF (putS_fn _ _) rfl rfl rfl trivial) rfl ?_
      refine RO.opn (v' := .ref 1 0) (O' := [_, _]) (opv_alloc) rfl rfl ?_
      refine RO.op0n (O' := [_, _]) (opv_store_term rfl rfl rfl (Nat.le_of_ble_eq_true rfl)) rfl ?_
      refine RO.nil ?_
      refine Runs.has [(4, .ref 0 0), (6, .d (.bool false)), (7, .d (.bool true)), (8, .d (encL _)), (9, .d (.int _ _)), (10, .ref 1 0)] ⟨rfl, rfl, rfl, rfl, rfl, rfl, trivial⟩ ?_
      refine Runs.rseq ?_
      refine RO.opv (v' := .d (encL _)) (opv_move rfl) rfl ?_
      refine RO.opv (v' := .d (enc _)) (opv_load_term rfl rfl rfl) rfl ?_
      refine RO.opv (opv_callF (sopen_fn (C k) (C_ok hk) (putS t x) (by omega)) rfl rfl rfl ⟨trivial, trivial, trivial⟩) rfl ?_
      refine RO.opv (opv_move rfl) rfl ?_
      refine RO.opv (v' := .d (enc _)) (opv_extract rfl rfl) rfl ?_
      refine RO.opv (v' := .d (.int _ _)) (opv_extract rfl rfl) rfl ?_
      refine RO.opn (v' := .ref 2 0) (O' := [_, _, _]) (opv_alloc) rfl rfl ?_
      refine RO.op0n (O' := [_, _, _]) (opv_store_term rfl rfl rfl (Nat.le_of_ble_eq_true rfl)) rfl ?_
      refine RO.opv (v' := .d (.int _ _)) (opv_assign rfl) rfl ?_
      refine RO.nil ?_
      refine Runs.has [(4, .ref 0 0), (6, .d (.bool false)), (7, .d (.bool true)), (8, .d (encL _)), (9, .d (.int _ _)), (10, .ref 1 0), (11, .ref 2 0), (12, .d (.int _ _))] ⟨rfl, rfl, rfl, rfl, rfl, rfl, rfl, rfl, trivial⟩ ?_
      refine Runs.seq ?_
      refine Runs.rseq ?_
      refine RO.opv (v' := .d (.int _ _)) (opv_assign rfl) rfl ?_
      refine RO.nil ?_
      refine Runs.block ?_
      refine Runs.loopC (X := Nat) (fun i => i ≤ (sopen (C k) (putS t x)).1.kids.length) (fun i => (sopen (C k) (putS t x)).1.kids.length - i) [(4, .ref 0 0), (7, .d (.bool true)), (8, .d (encL _)), (9, .d (.int _ _)), (10, .ref 1 0), (11, .ref 2 0), (12, .d (.int _ _))] (fun i => [(13, .d (.int .i64 (i : Nat)))]) [_, _, _] (fun i => []) (0) ⟨rfl, rfl, rfl, rfl, rfl, rfl, rfl, trivial⟩ ⟨rfl, trivial⟩ rfl (by omega) fun i hi => ?_
      refine Runs.seq ?_
      refine Runs.rseq ?_
      refine RO.opv (v' := .d (.int _ _)) (opv_move rfl) rfl ?_
      refine RO.opv (v' := .ref 2 3) (opv_field_ref rfl rfl) rfl ?_
      refine RO.opv (v' := .d (.list (encs _))) (opv_load_ref rfl rfl rfl) rfl ?_
      refine RO.opv (v' := .d (.int _ _)) (opv_len_terms rfl) rfl ?_
      refine RO.opc (opv_bin rfl rfl rfl) (fun h3 => ?_) (fun h3 => ?_)
      · try simp only [decide_eq_true_eq, decide_eq_false_iff_not, beq_iff_eq, beq_eq_false_iff_ne, bne_iff_ne, bne_eq_false_iff_eq, Int.not_lt, Int.not_le, ne_eq, Bool.not_eq_true', Bool.not_eq_false', gt_iff_lt, ge_iff_le] at h3
        have hi2 : i < (sopen (C k) (putS t x)).1.kids.length := by omega
        have hkd : (sopen (C k) (putS t x)).1.kids[i].kind = 4 ∧ (sopen (C k) (putS t x)).1.kids[i].num = (sopen (C k) (putS t x)).2 := by simp only [hsp]; simp [puts4, putS, Term.kids, Term.kind, Term.num]
        refine RO.nil ?_
        refine Runs.condT rfl ?_
        refine Runs.skip ?_
        refine thenQ_normal ?_
        refine Runs.has [(4, .ref 0 0), (7, .d (.bool true)), (8, .d (encL _)), (9, .d (.int _ _)), (10, .ref 1 0), (11, .ref 2 0), (12, .d (.int _ _)), (13, .d (.int _ _))] ⟨rfl, rfl, rfl, rfl, rfl, rfl, rfl, rfl, trivial⟩ ?_
        refine Runs.seq ?_
        refine Runs.block ?_
        refine Runs.rseq ?_
        refine RO.opv (v' := .ref 2 3) (opv_field_ref rfl rfl) rfl ?_
        refine RO.opv (v' := .d (.list (encs _))) (opv_load_ref rfl rfl rfl) rfl ?_
        refine RO.opv (v' := .d (.int _ _)) (opv_move rfl) rfl ?_
        refine RO.opv (v' := .d (.ptr _)) (opv_index_terms rfl rfl (by omega)) rfl ?_
        refine RO.opv (v' := .d (.ptr _)) (opv_field_ptr rfl) rfl ?_
        refine RO.opv (v' := .d (.int _ _)) (opv_load_ptr rfl rfl) rfl ?_
        refine RO.opv (v' := .d (.bool _)) (opv_bin rfl rfl rfl) rfl ?_
        refine RO.opc (opv_move rfl) (fun h4 => ?_) (fun h4 => ?_)
        · try simp only [decide_eq_true_eq, decide_eq_false_iff_not, beq_iff_eq, beq_eq_false_iff_ne, bne_iff_ne, bne_eq_false_iff_eq, Int.not_lt, Int.not_le, ne_eq, Bool.not_eq_true', Bool.not_eq_false', gt_iff_lt, ge_iff_le] at h4
          exact absurd hkd.1 h4
        · try simp only [decide_eq_true_eq, decide_eq_false_iff_not, beq_iff_eq, beq_eq_false_iff_ne, bne_iff_ne, bne_eq_false_iff_eq, Int.not_lt, Int.not_le, ne_eq, Bool.not_eq_true', Bool.not_eq_false', gt_iff_lt, ge_iff_le] at h4
          refine RO.opgv (v' := .ref 2 3) rfl (opv_field_ref rfl rfl) rfl ?_
          refine RO.opgv (v' := .d (.list (encs _))) rfl (opv_load_ref rfl rfl rfl) rfl ?_
          refine RO.opgv (v' := .d (.int _ _)) rfl (opv_move rfl) rfl ?_
          refine RO.opgv (v' := .d (.ptr _)) rfl (opv_index_terms rfl rfl (by omega)) rfl ?_
          refine RO.opgv (v' := .d (.ptr _)) rfl (opv_field_ptr rfl) rfl ?_
          refine RO.opgv (v' := .d (.int _ _)) rfl (opv_load_ptr rfl rfl) rfl ?_
          refine RO.opgv (v' := .d (.int _ _)) rfl (opv_move rfl) rfl ?_
          refine RO.opgv (v' := .d (.bool _)) rfl (opv_bin rfl rfl rfl) rfl ?_
          refine RO.opc (opv_pick rfl rfl) (fun h5 => ?_) (fun h5 => ?_)
          · try simp only [decide_eq_true_eq, decide_eq_false_iff_not, beq_iff_eq, beq_eq_false_iff_ne, bne_iff_ne, bne_eq_false_iff_eq, Int.not_lt, Int.not_le, ne_eq, Bool.not_eq_true', Bool.not_eq_false', gt_iff_lt, ge_iff_le] at h5
            exact absurd hkd.2 h5
          · try simp only [decide_eq_true_eq, decide_eq_false_iff_not, beq_iff_eq, beq_eq_false_iff_ne, bne_iff_ne, bne_eq_false_iff_eq, Int.not_lt, Int.not_le, ne_eq, Bool.not_eq_true', Bool.not_eq_false', gt_iff_lt, ge_iff_le] at h5
            refine RO.nil ?_
            refine Runs.condF rfl ?_
            refine Runs.skip ?_
            refine blockQ_normal ?_
            refine thenQ_normal ?_
            refine Runs.has [(4, .ref 0 0), (7, .d (.bool true)), (8, .d (encL _)), (9, .d (.int _ _)), (10, .ref 1 0), (11, .ref 2 0), (12, .d (.int _ _)), (13, .d (.int _ _))] ⟨rfl, rfl, rfl, rfl, rfl, rfl, rfl, rfl, trivial⟩ ?_
            refine Runs.region ?_
            refine RO.opv (v' := .d (.int _ _)) (opv_move rfl) rfl ?_
            refine RO.opv (v' := .d (.int _ _)) (opv_bin rfl rfl rfl) rfl ?_
            refine RO.opv (v' := .d (.int _ _)) (opv_assign rfl) rfl ?_
            refine RO.nil ?_
            refine thenQ_normal ?_
            refine ⟨i + 1, 3, (by rw [hK]; exact Nat.le_of_ble_eq_true rfl), ⟨rfl, rfl, rfl, rfl, rfl, rfl, rfl, trivial⟩, ⟨?_, trivial⟩, rfl, ?_, ?_⟩
            · refine int_eq ?_; rw [wrap64 (by omega) (by omega)]; omega
            · omega
            · omega
      · try simp only [decide_eq_true_eq, decide_eq_false_iff_not, beq_iff_eq, beq_eq_false_iff_ne, bne_iff_ne, bne_eq_false_iff_eq, Int.not_lt, Int.not_le, ne_eq, Bool.not_eq_true', Bool.not_eq_false', gt_iff_lt, ge_iff_le] at h3
        have hi2 : i = (sopen (C k) (putS t x)).1.kids.length := by omega
        refine RO.nil ?_
        refine Runs.condF rfl ?_
        refine Runs.exit ?_
        refine thenQ_exit ?_
        refine thenQ_exit ?_
        refine blockQ_here ?_
        refine thenQ_normal ?_
        refine Runs.has [(4, .ref 0 0), (7, .d (.bool true)), (8, .d (encL _)), (9, .d (.int _ _)), (10, .ref 1 0), (12, .d (.int _ _))] ⟨rfl, rfl, rfl, rfl, rfl, rfl, trivial⟩ ?_
        refine Runs.seq ?_
        refine Runs.drawn (by kernel_rfl) [] [false, false, false, false, false, false, false, false, false, false, false, false, false, false, false, false, false, false, false, false, false, false, false, false, false, false, false, false, false, false, false, false, false, false, false] [false, false, false, false, false, false, false, false, false, false, false, false, false, false, false, false, false, false, false, false, false, false, false, false, false, false, false, false, false, false, false, false, false, false, false] (by decide +kernel) ?_
        refine RD.opv (v' := .d (.bool true)) (opv_move rfl) rfl ?_
        refine RD.opv (v' := .d (.bool true)) (opv_move rfl) rfl ?_
        refine RD.opgv (v' := .d (encL _)) rfl (opv_move rfl) rfl ?_
        refine RD.opgv (v' := .d (enc _)) rfl (opv_load_term rfl rfl rfl) rfl ?_
        refine RD.opgv (v' := .d (.int _ _)) rfl (opv_callF (sjoin_fn (C k) (C_ok hk) (putS t x) (by omega)) rfl rfl rfl trivial) rfl ?_
        refine RD.opgv (v' := .d (encL _)) rfl (opv_move rfl) rfl ?_
        refine RD.opgv (v' := .d (.int _ _)) rfl (opv_move rfl) rfl ?_
        refine RD.opgv (v' := .d (encL _)) rfl (opv_move rfl) rfl ?_
        refine RD.opgv (v' := .d (enc _)) rfl (opv_load_term rfl rfl rfl) rfl ?_
        refine RD.opgv (v' := .d (.int _ _)) rfl (opv_callF (sjoin_fn (C k) (C_ok hk) t (by omega)) rfl rfl rfl trivial) rfl ?_
        refine RD.opgv (v' := .d (.int _ _)) rfl (opv_callF (ljoin_fn (C k) (C_ok hk) _ _) rfl rfl rfl trivial) rfl ?_
        refine RD.opgv (v' := .d (.bool _)) rfl (opv_bin rfl rfl rfl) rfl ?_
        refine RD.opv (v' := .d (.bool _)) (opv_pick rfl rfl) rfl ?_
        refine RD.opc (opv_move rfl) (fun h6 => ?_) (fun h6 => ?_)
        · try simp only [decide_eq_true_eq, decide_eq_false_iff_not, beq_iff_eq, beq_eq_false_iff_ne, bne_iff_ne, bne_eq_false_iff_eq, Int.not_lt, Int.not_le, ne_eq, Bool.not_eq_true', Bool.not_eq_false', gt_iff_lt, ge_iff_le] at h6
          refine RD.opgv (v' := .d (encL _)) rfl (opv_move rfl) rfl ?_
          refine RD.opgv (v' := .d (.int _ _)) rfl (opv_move rfl) rfl ?_
          refine RD.opgv (v' := .d (.int _ _)) rfl (opv_move rfl) rfl ?_
          refine RD.opgv (v' := .d (.bool _)) rfl (opv_callF (leq_fn (C k) (C_ok hk) _ _) rfl rfl rfl trivial) rfl ?_
          refine RD.opv (v' := .d (.bool _)) (opv_pick rfl rfl) rfl ?_
          refine RD.opc (opv_move rfl) (fun h7 => ?_) (fun h7 => ?_)
          · try simp only [decide_eq_true_eq, decide_eq_false_iff_not, beq_iff_eq, beq_eq_false_iff_ne, bne_iff_ne, bne_eq_false_iff_eq, Int.not_lt, Int.not_le, ne_eq, Bool.not_eq_true', Bool.not_eq_false', gt_iff_lt, ge_iff_le] at h7
            refine RD.opgv (v' := .d (enc _)) rfl (opv_load_term rfl rfl rfl) rfl ?_
            refine RD.opgv (v' := .d (enc _)) rfl (opv_callF (erase_fn (putS t x) (by omega)) rfl rfl rfl trivial) rfl ?_
            refine RD.opgv (v' := .d (enc _)) rfl (opv_load_term rfl rfl rfl) rfl ?_
            refine RD.opgv (v' := .d (enc _)) rfl (opv_callF (erase_fn t (by omega)) rfl rfl rfl trivial) rfl ?_
            refine RD.opgv (v' := .d (.bool _)) rfl (opv_callF (same_fn (putS t x).erase t.erase (by rw [erase_put]; omega) (by omega)) rfl rfl rfl trivial) rfl ?_
            refine RD.opv (v' := .d (.bool _)) (opv_pick rfl rfl) rfl ?_
            refine RD.opc (opv_move rfl) (fun h8 => ?_) (fun h8 => ?_)
            · try simp only [decide_eq_true_eq, decide_eq_false_iff_not, beq_iff_eq, beq_eq_false_iff_ne, bne_iff_ne, bne_eq_false_iff_eq, Int.not_lt, Int.not_le, ne_eq, Bool.not_eq_true', Bool.not_eq_false', gt_iff_lt, ge_iff_le] at h8
              refine RD.opgv (v' := .d (enc _)) rfl (opv_load_term rfl rfl rfl) rfl ?_
              refine RD.opgv (v' := .d (.int _ _)) rfl (opv_callF (size_fn (putS t x) (by omega)) rfl rfl rfl trivial) rfl ?_
              refine RD.opgv (v' := .d (enc _)) rfl (opv_load_term rfl rfl rfl) rfl ?_
              refine RD.opgv (v' := .d (.int _ _)) rfl (opv_callF (size_fn t (by omega)) rfl rfl rfl trivial) rfl ?_
              refine RD.opgv (v' := .d (.int _ _)) rfl (opv_bin rfl rfl rfl) rfl ?_
              refine RD.opgv (v' := .d (.bool _)) rfl (opv_bin rfl rfl rfl) rfl ?_
              refine RD.opv (v' := .d (.bool _)) (opv_pick rfl rfl) rfl ?_
              refine RD.opv (v' := .d (.bool _)) (opv_assign rfl) rfl ?_
              refine RD.nil ?_
              refine thenQ_normal ?_
              refine Runs.ret ?_
              refine EndQ.tmp (.inr rfl) rfl rfl 0 (by exact Nat.le_refl _) (by exact Nat.zero_le _) trivial ⟨?_, rfl⟩
              refine bool_eq ?_; have hz := t.size_bulk; have e : (putS t x).size = t.size + 1 := rfl; rw [wrap64 (by omega) (by omega)]; simp [e]
            · try simp only [decide_eq_true_eq, decide_eq_false_iff_not, beq_iff_eq, beq_eq_false_iff_ne, bne_iff_ne, bne_eq_false_iff_eq, Int.not_lt, Int.not_le, ne_eq, Bool.not_eq_true', Bool.not_eq_false', gt_iff_lt, ge_iff_le] at h8
              rw [erase_put, same_refl] at h8; cases h8
          · try simp only [decide_eq_true_eq, decide_eq_false_iff_not, beq_iff_eq, beq_eq_false_iff_ne, bne_iff_ne, bne_eq_false_iff_eq, Int.not_lt, Int.not_le, ne_eq, Bool.not_eq_true', Bool.not_eq_false', gt_iff_lt, ge_iff_le] at h7
            have := (opn_max hk t 0 (Int.le_refl _) (by omega)); rw [C_leq hk, decide_eq_false_iff_not, hsp] at h7; exact absurd (by simp only []; omega) h7
        · try simp only [decide_eq_true_eq, decide_eq_false_iff_not, beq_iff_eq, beq_eq_false_iff_ne, bne_iff_ne, bne_eq_false_iff_eq, Int.not_lt, Int.not_le, ne_eq, Bool.not_eq_true', Bool.not_eq_false', gt_iff_lt, ge_iff_le] at h6
          rw [sj_put hk t x1.1 x1.2, C_join hk x1.1 x1.2 rt.1 rt.2] at h6; exact absurd rfl h6
end Go.Proofs.Ytklnjmnpkelnkaa.AM
