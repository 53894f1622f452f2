import Derived.Test.YtondfedhffjokaaL0
import Derived.Test.YtondfedhffjokaaP6
namespace Go.Proofs.Ytondfedhffjokaa.AM
open Go
set_option linter.unusedVariables false
set_option linter.unusedSimpArgs false
theorem termSame_fn (t u : Term) (g1 : t.bulk ≤ 2 ^ 20) (g1' : t.fits) (g2 : u.bulk ≤ 2 ^ 20) (_g2' : u.fits) : Fn Try.prog 6 [.d (enc t), .d (enc u)] [] (.d (.bool true)) [] := by
  have hU := t.bulk_kids
  have hL := bulks_len t.kids
  refine Does.run Try.func6 rfl Try.ntmps6 rfl fun K hK => ?_
  refine Runs.rseq ?_
  refine RO.opn (v' := .ref 0 0) (O' := [_]) (opv_box_term rfl) rfl rfl ?_
  refine RO.opn (v' := .ref 1 0) (O' := [_, _]) (opv_box_term rfl) rfl rfl ?_
  refine RO.opv (v' := .d (.bool false)) (opv_assign rfl) rfl ?_
  refine RO.nil ?_
  refine Runs.has [(2, .ref 0 0), (3, .ref 1 0), (4, .d (.bool false))] ⟨rfl, rfl, rfl, trivial⟩ ?_
  refine Runs.rseq ?_
  refine RO.opv (v' := .d (.bool true)) (opv_callF (shown_fn) rfl rfl rfl trivial) rfl ?_
  refine RO.opv (v' := .d (.bool true)) (opv_assign rfl) rfl ?_
  refine RO.nil ?_
  refine Runs.has [(2, .ref 0 0), (3, .ref 1 0), (4, .d (.bool false)), (5, .d (.bool true))] ⟨rfl, rfl, rfl, rfl, trivial⟩ ?_
  refine Runs.seq ?_
  refine Runs.rseq ?_
  refine RO.opv (v' := .d (enc _)) (opv_load_term rfl rfl rfl) rfl ?_
  refine RO.opv (v' := .d (.bool _)) (opv_callF (few_fn t (by omega)) rfl rfl rfl trivial) rfl ?_
  refine RO.opv (v' := .d (.bool _)) (opv_not rfl rfl) rfl ?_
  refine RO.opc (opv_move rfl) (fun h1 => ?_) (fun h1 => ?_)
  · try simp only [decide_eq_true_eq, decide_eq_false_iff_not, beq_iff_eq, beq_eq_false_iff_ne, bne_iff_ne, bne_eq_false_iff_eq, Int.not_lt, Int.not_le, ne_eq, Bool.not_eq_true', Bool.not_eq_false', gt_iff_lt, ge_iff_le] at h1
    refine RO.off rfl ?_
    refine RO.off rfl ?_
    refine RO.off rfl ?_
    refine RO.opv (v' := .d (.bool true)) (opv_pick rfl rfl) rfl ?_
    refine RO.nil ?_
    refine Runs.condT rfl ?_
    refine Runs.has [(2, .ref 0 0), (3, .ref 1 0), (4, .d (.bool false)), (5, .d (.bool true))] ⟨rfl, rfl, rfl, rfl, trivial⟩ ?_
    refine Runs.rseq ?_
    refine RO.opv (v' := .d (.bool true)) (opv_move rfl) rfl ?_
    refine RO.opv (v' := .d (.bool true)) (opv_assign rfl) rfl ?_
    refine RO.nil ?_
    refine Runs.ret ?_
    refine thenQ_ret ?_
    refine EndQ.tmp (.inr rfl) rfl rfl 0 (by exact Nat.le_refl _) (by exact Nat.zero_le _) trivial ⟨?_, rfl⟩
    rfl
  · try simp only [decide_eq_true_eq, decide_eq_false_iff_not, beq_iff_eq, beq_eq_false_iff_ne, bne_iff_ne, bne_eq_false_iff_eq, Int.not_lt, Int.not_le, ne_eq, Bool.not_eq_true', Bool.not_eq_false', gt_iff_lt, ge_iff_le] at h1
    refine RO.opgv (v' := .d (enc _)) rfl (opv_load_term rfl rfl rfl) rfl ?_
    refine RO.opgv (v' := .d (.bool _)) rfl (opv_callF (few_fn u (by omega)) rfl rfl rfl trivial) rfl ?_
    refine RO.opgv (v' := .d (.bool _)) rfl (opv_not rfl rfl) rfl ?_
    refine RO.opc (opv_pick rfl rfl) (fun h2 => ?_) (fun h2 => ?_)
    · try simp only [decide_eq_true_eq, decide_eq_false_iff_not, beq_iff_eq, beq_eq_false_iff_ne, bne_iff_ne, bne_eq_false_iff_eq, Int.not_lt, Int.not_le, ne_eq, Bool.not_eq_true', Bool.not_eq_false', gt_iff_lt, ge_iff_le] at h2
      refine RO.nil ?_
      refine Runs.condT rfl ?_
      refine Runs.has [(2, .ref 0 0), (3, .ref 1 0), (4, .d (.bool false)), (5, .d (.bool true))] ⟨rfl, rfl, rfl, rfl, trivial⟩ ?_
      refine Runs.rseq ?_
      refine RO.opv (v' := .d (.bool true)) (opv_move rfl) rfl ?_
      refine RO.opv (v' := .d (.bool true)) (opv_assign rfl) rfl ?_
      refine RO.nil ?_
      refine Runs.ret ?_
      refine thenQ_ret ?_
      refine EndQ.tmp (.inr rfl) rfl rfl 0 (by exact Nat.le_refl _) (by exact Nat.zero_le _) trivial ⟨?_, rfl⟩
      rfl
    · try simp only [decide_eq_true_eq, decide_eq_false_iff_not, beq_iff_eq, beq_eq_false_iff_ne, bne_iff_ne, bne_eq_false_iff_eq, Int.not_lt, Int.not_le, ne_eq, Bool.not_eq_true', Bool.not_eq_false', gt_iff_lt, ge_iff_le] at h2
      refine RO.nil ?_
      refine Runs.condF rfl ?_
      refine Runs.skip ?_
      refine thenQ_normal ?_
      refine Runs.has [(2, .ref 0 0), (3, .ref 1 0), (4, .d (.bool false)), (5, .d (.bool true))] ⟨rfl, rfl, rfl, rfl, trivial⟩ ?_
      refine Runs.rseq ?_
      refine RO.opv (v' := .d (enc _)) (opv_load_term rfl rfl rfl) rfl ?_
      refine RO.opn (v' := .ref 2 0) (O' := [_, _, _]) (opv_alloc) rfl rfl ?_
      refine RO.op0n (O' := [_, _, _]) (opv_store_term rfl rfl rfl (Nat.le_of_ble_eq_true rfl)) rfl ?_
      refine RO.nil ?_
      refine Runs.has [(2, .ref 0 0), (3, .ref 1 0), (4, .d (.bool false)), (5, .d (.bool true)), (6, .ref 2 0)] ⟨rfl, rfl, rfl, rfl, rfl, trivial⟩ ?_
      refine Runs.rseq ?_
      refine RO.opv (v' := .ref 0 1) (opv_field_ref rfl rfl) rfl ?_
      refine RO.opv (v' := .d (.int _ _)) (opv_load_ref rfl rfl rfl) rfl ?_
      refine RO.opv (v' := .d (.int _ _)) (opv_bin rfl rfl rfl) rfl ?_
      refine RO.opv (v' := .ref 2 1) (opv_field_ref rfl rfl) rfl ?_
      refine RO.op0n (O' := [_, _, _]) (opv_store_ref rfl rfl rfl rfl rfl (Nat.le_of_ble_eq_true rfl) rfl) rfl ?_
      refine RO.nil ?_
      refine Runs.has [(2, .ref 0 0), (3, .ref 1 0), (4, .d (.bool false)), (5, .d (.bool true)), (6, .ref 2 0)] ⟨rfl, rfl, rfl, rfl, rfl, trivial⟩ ?_
      refine Runs.rseq ?_
      refine RO.opv (v' := .d (enc _)) (opv_load_term rfl rfl rfl) rfl ?_
      refine RO.opn (v' := .ref 3 0) (O' := [_, _, _, _]) (opv_alloc) rfl rfl ?_
      refine RO.op0n (O' := [_, _, _, _]) (opv_store_term rfl rfl rfl (Nat.le_of_ble_eq_true rfl)) rfl ?_
      refine RO.nil ?_
      refine Runs.has [(2, .ref 0 0), (3, .ref 1 0), (4, .d (.bool false)), (5, .d (.bool true)), (6, .ref 2 0), (7, .ref 3 0)] ⟨rfl, rfl, rfl, rfl, rfl, rfl, trivial⟩ ?_
      refine Runs.rseq ?_
      refine RO.opv (v' := .ref 0 2) (opv_field_ref rfl rfl) rfl ?_
      refine RO.opv (v' := .d (.str _)) (opv_load_ref rfl rfl rfl) rfl ?_
      refine RO.opv (v' := .d (.str _)) (opv_cat rfl rfl (by show t.name.size + 1 ≤ _; omega)) rfl ?_
      refine RO.opv (v' := .ref 3 2) (opv_field_ref rfl rfl) rfl ?_
      refine RO.op0n (O' := [_, _, _, _]) (opv_store_ref rfl rfl rfl rfl rfl (Nat.le_of_ble_eq_true rfl) rfl) rfl ?_
      refine RO.nil ?_
      refine Runs.has [(2, .ref 0 0), (3, .ref 1 0), (4, .d (.bool false)), (5, .d (.bool true)), (6, .ref 2 0), (7, .ref 3 0)] ⟨rfl, rfl, rfl, rfl, rfl, rfl, trivial⟩ ?_
      refine Runs.rseq ?_
      refine RO.opv (v' := .d (enc _)) (opv_load_term rfl rfl rfl) rfl ?_
      refine RO.opn (v' := .ref 4 0) (O' := [_, _, _, _, _]) (opv_alloc) rfl rfl ?_
      refine RO.op0n (O' := [_, _, _, _, _]) (opv_store_term rfl rfl rfl (Nat.le_of_ble_eq_true rfl)) rfl ?_
      refine RO.nil ?_
      refine Runs.has [(2, .ref 0 0), (3, .ref 1 0), (4, .d (.bool false)), (5, .d (.bool true)), (6, .ref 2 0), (7, .ref 3 0), (8, .ref 4 0)] ⟨rfl, rfl, rfl, rfl, rfl, rfl, rfl, trivial⟩ ?_
      refine Runs.seq ?_
      refine Runs.drawn (by kernel_rfl) [1] [false, false, false, false, true, true, false, false, false] [false, false, false, true, false, false, true, false, true] (by decide +kernel) ?_
      refine RD.opv (v' := .nil0) (opv_buildSlice0 rfl) rfl ?_
      refine RD.opv (v' := .ref 0 3) (opv_field_ref rfl rfl) rfl ?_
      refine RD.opv (v' := .d (.list (encs _))) (opv_load_ref rfl rfl rfl) rfl ?_
      refine RD.opn (v' := .own 5 _) (O' := [_, _, _, _, _, _]) (opv_append_terms0 rfl rfl (by omega)) rfl rfl ⟨rfl, trivial⟩ ?_
      refine RD.opa (v' := .d (enc _)) (fun O' hk => opv_load_term rfl (hk.1.trans rfl) rfl) rfl ?_
      refine RD.opa (v' := .d (.list (encs _))) (fun O' hk => opv_bs_term1 rfl ) rfl ?_
      refine RD.opn (v' := .d (.list (encs _))) (O' := [_, _, _, _, _, _]) (OpV.shut (opv_append_terms rfl rfl rfl (by simp; omega)) rfl) rfl rfl ⟨rfl, trivial⟩ ?_
      refine RD.opv (v' := .ref 4 3) (opv_field_ref rfl rfl) rfl ?_
      refine RD.op0n (O' := [_, _, _, _, _, _]) (opv_store_ref rfl rfl rfl rfl rfl (Nat.le_of_ble_eq_true rfl) rfl) rfl ⟨rfl, trivial⟩ ?_
      refine RD.nil ?_
      refine thenQ_normal ?_
      refine Runs.has [(2, .ref 0 0), (3, .ref 1 0), (4, .d (.bool false)), (5, .d (.bool true)), (6, .ref 2 0), (7, .ref 3 0), (8, .ref 4 0)] ⟨rfl, rfl, rfl, rfl, rfl, rfl, rfl, trivial⟩ ?_
      refine Runs.rseq ?_
      refine RO.opv (v' := .d (enc _)) (opv_load_term rfl rfl rfl) rfl ?_
      refine RO.opv (v' := .d (enc _)) (opv_load_term rfl rfl rfl) rfl ?_
      refine RO.opv (v' := .d (.bool _)) (opv_callF (same_fn t u (by omega) (by omega)) rfl rfl rfl trivial) rfl ?_
      refine RO.opv (v' := .d (.bool _)) (opv_assign rfl) rfl ?_
      refine RO.nil ?_
      refine Runs.has [(2, .ref 0 0), (3, .ref 1 0), (4, .d (.bool false)), (5, .d (.bool true)), (6, .ref 2 0), (7, .ref 3 0), (8, .ref 4 0), (9, .d (.bool _))] ⟨rfl, rfl, rfl, rfl, rfl, rfl, rfl, rfl, trivial⟩ ?_
      refine Runs.seq ?_
      refine Runs.drawn (by kernel_rfl) [] [false, false, false, false, false, false, false, false, false, false, false, false, false, false, false, false, false, false, false, false, false, false, false, false, false, false, false, false, false, false, false, false, false, false, false, false, false, false, false, false, false, false, false, false, false, false, false, false, false, false] [false, false, false, false, false, false, false, false, false, false, false, false, false, false, false, false, false, false, false, false, false, false, false, false, false, false, false, false, false, false, false, false, false, false, false, false, false, false, false, false, false, false, false, false, false, false, false, false, false, false] (by decide +kernel) ?_
      refine RD.opv (v' := .d (.bool true)) (opv_move rfl) rfl ?_
      refine RD.opv (v' := .d (.bool true)) (opv_move rfl) rfl ?_
      refine RD.opgv (v' := .d (enc _)) rfl (opv_load_term rfl rfl rfl) rfl ?_
      refine RD.opgv (v' := .d (enc _)) rfl (opv_load_term rfl rfl rfl) rfl ?_
      refine RD.opgv (v' := .d (.bool _)) rfl (opv_callF (same_fn t t (by omega) (by omega)) rfl rfl rfl trivial) rfl ?_
      refine RD.opv (v' := .d (.bool _)) (opv_pick rfl rfl) rfl ?_
      refine RD.opc (opv_move rfl) (fun h3 => ?_) (fun h3 => ?_)
      · try simp only [decide_eq_true_eq, decide_eq_false_iff_not, beq_iff_eq, beq_eq_false_iff_ne, bne_iff_ne, bne_eq_false_iff_eq, Int.not_lt, Int.not_le, ne_eq, Bool.not_eq_true', Bool.not_eq_false', gt_iff_lt, ge_iff_le] at h3
        refine RD.opgv (v' := .d (enc _)) rfl (opv_load_term rfl rfl rfl) rfl ?_
        refine RD.opgv (v' := .d (enc _)) rfl (opv_load_node rfl rfl rfl rfl) rfl ?_
        refine RD.opgv (v' := .d (.bool _)) rfl (opv_callF (same_fn t (.node t.kind (IntKind.i64.wrap (t.num + 1)) t.name t.kids) (by omega) (by simp only [Term.bulk]; omega)) rfl rfl rfl trivial) rfl ?_
        refine RD.opgv (v' := .d (.bool _)) rfl (opv_not rfl rfl) rfl ?_
        refine RD.opv (v' := .d (.bool _)) (opv_pick rfl rfl) rfl ?_
        refine RD.opc (opv_move rfl) (fun h4 => ?_) (fun h4 => ?_)
        · try simp only [decide_eq_true_eq, decide_eq_false_iff_not, beq_iff_eq, beq_eq_false_iff_ne, bne_iff_ne, bne_eq_false_iff_eq, Int.not_lt, Int.not_le, ne_eq, Bool.not_eq_true', Bool.not_eq_false', gt_iff_lt, ge_iff_le] at h4
          refine RD.opgv (v' := .d (enc _)) rfl (opv_load_term rfl rfl rfl) rfl ?_
          refine RD.opgv (v' := .d (enc _)) rfl (opv_load_node rfl rfl rfl rfl) rfl ?_
          refine RD.opgv (v' := .d (.bool _)) rfl (opv_callF (same_fn t (.node t.kind t.num (t.name ++ ⟨#[120]⟩) t.kids) (by omega) (by simp only [Term.bulk, ByteArray.size_append]; show _ + 1 + _ + 1 ≤ _; omega)) rfl rfl rfl trivial) rfl ?_
          refine RD.opgv (v' := .d (.bool _)) rfl (opv_not rfl rfl) rfl ?_
          refine RD.opv (v' := .d (.bool _)) (opv_pick rfl rfl) rfl ?_
          refine RD.opc (opv_move rfl) (fun h5 => ?_) (fun h5 => ?_)
          · try simp only [decide_eq_true_eq, decide_eq_false_iff_not, beq_iff_eq, beq_eq_false_iff_ne, bne_iff_ne, bne_eq_false_iff_eq, Int.not_lt, Int.not_le, ne_eq, Bool.not_eq_true', Bool.not_eq_false', gt_iff_lt, ge_iff_le] at h5
            refine RD.opgv (v' := .d (enc _)) rfl (opv_load_term rfl rfl rfl) rfl ?_
            refine RD.opgv (v' := .d (enc _)) rfl (opv_load_node rfl rfl rfl rfl) rfl ?_
            refine RD.opgv (v' := .d (.bool _)) rfl (opv_callF (same_fn t (.node t.kind t.num t.name (t.kids ++ [u])) (by omega) (by simp only [Term.bulk, bulks_app, bulks]; omega)) rfl rfl rfl trivial) rfl ?_
            refine RD.opgv (v' := .d (.bool _)) rfl (opv_not rfl rfl) rfl ?_
            refine RD.opv (v' := .d (.bool _)) (opv_pick rfl rfl) rfl ?_
            refine RD.opc (opv_move rfl) (fun h6 => ?_) (fun h6 => ?_)
            · try simp only [decide_eq_true_eq, decide_eq_false_iff_not, beq_iff_eq, beq_eq_false_iff_ne, bne_iff_ne, bne_eq_false_iff_eq, Int.not_lt, Int.not_le, ne_eq, Bool.not_eq_true', Bool.not_eq_false', gt_iff_lt, ge_iff_le] at h6
              refine RD.opgv (v' := .d (.bool _)) rfl (opv_move rfl) rfl ?_
              refine RD.opgv (v' := .d (enc _)) rfl (opv_load_term rfl rfl rfl) rfl ?_
              refine RD.opgv (v' := .d (enc _)) rfl (opv_load_term rfl rfl rfl) rfl ?_
              refine RD.opgv (v' := .d (.bool _)) rfl (opv_callF (same_fn u t (by omega) (by omega)) rfl rfl rfl trivial) rfl ?_
              refine RD.opgv (v' := .d (.bool _)) rfl (opv_bool rfl rfl rfl) rfl ?_
              refine RD.opv (v' := .d (.bool _)) (opv_pick rfl rfl) rfl ?_
              refine RD.opc (opv_move rfl) (fun h7 => ?_) (fun h7 => ?_)
              · try simp only [decide_eq_true_eq, decide_eq_false_iff_not, beq_iff_eq, beq_eq_false_iff_ne, bne_iff_ne, bne_eq_false_iff_eq, Int.not_lt, Int.not_le, ne_eq, Bool.not_eq_true', Bool.not_eq_false', gt_iff_lt, ge_iff_le] at h7
                refine RD.opgv (v' := .d (.bool _)) rfl (opv_move rfl) rfl ?_
                refine RD.opgv (v' := .d (.bool _)) rfl (opv_not rfl rfl) rfl ?_
                refine RD.opgc rfl (opv_move rfl) (fun h8 => ?_) (fun h8 => ?_)
                · try simp only [decide_eq_true_eq, decide_eq_false_iff_not, beq_iff_eq, beq_eq_false_iff_ne, bne_iff_ne, bne_eq_false_iff_eq, Int.not_lt, Int.not_le, ne_eq, Bool.not_eq_true', Bool.not_eq_false', gt_iff_lt, ge_iff_le] at h8
                  refine RD.off rfl ?_
                  refine RD.off rfl ?_
                  refine RD.off rfl ?_
                  refine RD.off rfl ?_
                  refine RD.off rfl ?_
                  refine RD.off rfl ?_
                  refine RD.off rfl ?_
                  refine RD.off rfl ?_
                  refine RD.off rfl ?_
                  refine RD.off rfl ?_
                  refine RD.off rfl ?_
                  refine RD.off rfl ?_
                  refine RD.opgv (v' := .d (.bool true)) rfl (opv_pick rfl rfl) rfl ?_
                  refine RD.opv (v' := .d (.bool true)) (opv_pick rfl rfl) rfl ?_
                  refine RD.opv (v' := .d (.bool true)) (opv_assign rfl) rfl ?_
                  refine RD.nil ?_
                  refine thenQ_normal ?_
                  refine Runs.ret ?_
                  refine EndQ.tmp (.inr rfl) rfl rfl 0 (by exact Nat.le_refl _) (by exact Nat.zero_le _) trivial ⟨?_, rfl⟩
                  rfl
                · try simp only [decide_eq_true_eq, decide_eq_false_iff_not, beq_iff_eq, beq_eq_false_iff_ne, bne_iff_ne, bne_eq_false_iff_eq, Int.not_lt, Int.not_le, ne_eq, Bool.not_eq_true', Bool.not_eq_false', gt_iff_lt, ge_iff_le] at h8
                  refine RD.opgv (v' := .d (enc _)) rfl (opv_load_term rfl rfl rfl) rfl ?_
                  refine RD.opgv (v' := .d (.int _ _)) rfl (opv_callF (size_fn t (by omega)) rfl rfl rfl trivial) rfl ?_
                  refine RD.opgv (v' := .d (enc _)) rfl (opv_load_term rfl rfl rfl) rfl ?_
                  refine RD.opgv (v' := .d (.int _ _)) rfl (opv_callF (size_fn u (by omega)) rfl rfl rfl trivial) rfl ?_
                  refine RD.opgv (v' := .d (.bool _)) rfl (opv_bin rfl rfl rfl) rfl ?_
                  refine RD.opgc rfl (opv_move rfl) (fun h9 => ?_) (fun h9 => ?_)
                  · try simp only [decide_eq_true_eq, decide_eq_false_iff_not, beq_iff_eq, beq_eq_false_iff_ne, bne_iff_ne, bne_eq_false_iff_eq, Int.not_lt, Int.not_le, ne_eq, Bool.not_eq_true', Bool.not_eq_false', gt_iff_lt, ge_iff_le] at h9
                    refine RD.opgv (v' := .d (enc _)) rfl (opv_load_term rfl rfl rfl) rfl ?_
                    refine RD.opgv (v' := .d (.int _ _)) rfl (opv_callF (deep_fn t (by omega)) rfl rfl rfl trivial) rfl ?_
                    refine RD.opgv (v' := .d (enc _)) rfl (opv_load_term rfl rfl rfl) rfl ?_
                    refine RD.opgv (v' := .d (.int _ _)) rfl (opv_callF (deep_fn u (by omega)) rfl rfl rfl trivial) rfl ?_
                    refine RD.opgv (v' := .d (.bool _)) rfl (opv_bin rfl rfl rfl) rfl ?_
                    refine RD.opgv (v' := .d (.bool _)) rfl (opv_pick rfl rfl) rfl ?_
                    refine RD.opgv (v' := .d (.bool _)) rfl (opv_pick rfl rfl) rfl ?_
                    refine RD.opv (v' := .d (.bool _)) (opv_pick rfl rfl) rfl ?_
                    refine RD.opv (v' := .d (.bool _)) (opv_assign rfl) rfl ?_
                    refine RD.nil ?_
                    refine thenQ_normal ?_
                    refine Runs.ret ?_
                    refine EndQ.tmp (.inr rfl) rfl rfl 0 (by exact Nat.le_refl _) (by exact Nat.zero_le _) trivial ⟨?_, rfl⟩
                    refine bool_eq ?_; have e := (same_iff t u).1 (by simp_all); subst e; simp
                  · try simp only [decide_eq_true_eq, decide_eq_false_iff_not, beq_iff_eq, beq_eq_false_iff_ne, bne_iff_ne, bne_eq_false_iff_eq, Int.not_lt, Int.not_le, ne_eq, Bool.not_eq_true', Bool.not_eq_false', gt_iff_lt, ge_iff_le] at h9
                    exfalso; have e := (same_iff t u).1 (by simp_all); subst e; exact h9 rfl
              · try simp only [decide_eq_true_eq, decide_eq_false_iff_not, beq_iff_eq, beq_eq_false_iff_ne, bne_iff_ne, bne_eq_false_iff_eq, Int.not_lt, Int.not_le, ne_eq, Bool.not_eq_true', Bool.not_eq_false', gt_iff_lt, ge_iff_le] at h7
                exact absurd (same_comm t u) h7
            · try simp only [decide_eq_true_eq, decide_eq_false_iff_not, beq_iff_eq, beq_eq_false_iff_ne, bne_iff_ne, bne_eq_false_iff_eq, Int.not_lt, Int.not_le, ne_eq, Bool.not_eq_true', Bool.not_eq_false', gt_iff_lt, ge_iff_le] at h6
              rw [same_more] at h6; cases h6
          · try simp only [decide_eq_true_eq, decide_eq_false_iff_not, beq_iff_eq, beq_eq_false_iff_ne, bne_iff_ne, bne_eq_false_iff_eq, Int.not_lt, Int.not_le, ne_eq, Bool.not_eq_true', Bool.not_eq_false', gt_iff_lt, ge_iff_le] at h5
            rw [same_name t _ (by decide)] at h5; cases h5
        · try simp only [decide_eq_true_eq, decide_eq_false_iff_not, beq_iff_eq, beq_eq_false_iff_ne, bne_iff_ne, bne_eq_false_iff_eq, Int.not_lt, Int.not_le, ne_eq, Bool.not_eq_true', Bool.not_eq_false', gt_iff_lt, ge_iff_le] at h4
          rw [same_num t g1'] at h4; cases h4
      · try simp only [decide_eq_true_eq, decide_eq_false_iff_not, beq_iff_eq, beq_eq_false_iff_ne, bne_iff_ne, bne_eq_false_iff_eq, Int.not_lt, Int.not_le, ne_eq, Bool.not_eq_true', Bool.not_eq_false', gt_iff_lt, ge_iff_le] at h3
        rw [same_refl] at h3; cases h3
end Go.Proofs.Ytondfedhffjokaa.AM
